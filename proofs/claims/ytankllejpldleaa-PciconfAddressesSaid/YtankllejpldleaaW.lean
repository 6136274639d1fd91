/-
  The shallow readings of this seat's functions, written by a program (gen.py); the kernel holds each against the loaded program.
-/
import Derived.Test.YtankllejpldleaaProg
import Derived.Test.YtankllejpldleaaEngS
namespace Go.Proofs.Ytankllejpldleaa
open Go.Eng
abbrev n_law18_PciconfValidates : FuncId := 3
abbrev n_law18_PciconfReadOnly : FuncId := 4
abbrev n_law18_PciconfProbes : FuncId := 5
abbrev n_law18_PciconfAddresses : FuncId := 6
abbrev n_pciconf_New : FuncId := 7
abbrev n_pciconf_Valid : FuncId := 8
abbrev n_ref18_ValidFunction : FuncId := 9
abbrev n_law18_some : FuncId := 10
abbrev n_law18_awake : FuncId := 11
abbrev n_ref18_NewDevice : FuncId := 12
abbrev n_law18_access : FuncId := 13
abbrev n_pciconf_Device_Write : FuncId := 14
abbrev n_pciconf_Device_Read : FuncId := 15
abbrev n_ref18_Device_Read : FuncId := 16
abbrev n_pciconf_Device_Probe : FuncId := 17
abbrev n_ref18_Registers : FuncId := 18
abbrev n_help_Mod : FuncId := 19
abbrev n_pciconf_Device_Windows : FuncId := 20
abbrev n_pciconf_registers : FuncId := 21
abbrev n_pciconf_Device_define : FuncId := 22
abbrev n_pciconf_Device_defineBar : FuncId := 23
abbrev n_pciconf_Device_defineBridge : FuncId := 24
abbrev n_pciconf_validBar : FuncId := 25
abbrev n_ref18_Device_set : FuncId := 26
abbrev n_ref18_bar : FuncId := 27
abbrev n_ref18_wide : FuncId := 28
abbrev n_pciconf_wellFormed : FuncId := 29
abbrev n_pciconf_Device_number : FuncId := 30
abbrev n_ref18_formed : FuncId := 31
abbrev n_pciconf_Device_enabled : FuncId := 32
abbrev n_pciconf_Device_appendWindow : FuncId := 33
abbrev t_int64 : TypeId := 2
abbrev t_int : TypeId := 3
abbrev t_bool : TypeId := 4
abbrev t_uint8 : TypeId := 5
abbrev t_abi_BoundsErrorCode : TypeId := 6
abbrev t_runtime_boundsError : TypeId := 8
abbrev t_string : TypeId := 9
abbrev t_runtime_errorString : TypeId := 10
abbrev t_runtime_plainError : TypeId := 11
abbrev t_uintptr : TypeId := 12
abbrev t_runtime_errorAddressString : TypeId := 14
abbrev t_p_runtime_TypeAssertionError : TypeId := 15
abbrev t_p_runtime_PanicNilError : TypeId := 16
abbrev t_p_abi_Type : TypeId := 17
abbrev t_maps_unhashableTypeError : TypeId := 19
abbrev t_int32 : TypeId := 21
abbrev t_sl_api_Bar : TypeId := 22
abbrev t_api_Function : TypeId := 24
abbrev t_p_pciconf_Device : TypeId := 25
abbrev t_api_Errno : TypeId := 26
abbrev t_sl_law18_Op : TypeId := 32
abbrev t_p_ref18_Device : TypeId := 33
abbrev t_uint64 : TypeId := 37
abbrev t_law18_Op : TypeId := 39
abbrev t_64_uint64 : TypeId := 43
abbrev t_api_Bar : TypeId := 47
abbrev t_uint : TypeId := 49
abbrev t_sl_api_Window : TypeId := 50
abbrev t_api_Range : TypeId := 53
abbrev t_api_Window : TypeId := 55
abbrev t_256_uint8 : TypeId := 58
abbrev t_pciconf_Device : TypeId := 60
abbrev t_sl_int : TypeId := 64
abbrev t_ref18_Device : TypeId := 66
abbrev t_runtime_TypeAssertionError : TypeId := 74
abbrev t_0_p_runtime_PanicNilError : TypeId := 75
abbrev t_runtime_PanicNilError : TypeId := 77
abbrev t_uint32 : TypeId := 79
abbrev t_abi_TFlag : TypeId := 80
abbrev t_abi_Kind : TypeId := 81
abbrev t_p_uint8 : TypeId := 83
abbrev t_abi_NameOff : TypeId := 84
abbrev t_abi_TypeOff : TypeId := 85
abbrev t_abi_Type : TypeId := 87
abbrev t_unsafe_Pointer : TypeId := 88

/-! ### 3: platformfw/platformfwlaw18.PciconfValidates -/

def F_law18_PciconfValidates_k1 (H : Heap) (I_ : Int → Heap → Prop) (M_ : Int → Heap → Nat) (k : Int) (H2 : Heap) (H7 : Heap) : Prop :=
  ∃ x49 : Int, rd H7 (⟨H.size, 0, none⟩ : Addr) = some (.int .i64 x49) ∧ ∃ x50 : Int, rd H7 ((⟨H.size, 0, none⟩ : Addr).add 1) = some (.int .i64 x50) ∧ ∃ x51 : Int, rd H7 ((⟨H.size, 0, none⟩ : Addr).add 2) = some (.int .i64 x51) ∧ ∃ x52 : Int, rd H7 ((⟨H.size, 0, none⟩ : Addr).add 3) = some (.int .i64 x52) ∧ ∃ x53 : Bool, rd H7 ((⟨H.size, 0, none⟩ : Addr).add 4) = some (.bool x53) ∧ ∃ x54 : Bool, rd H7 ((⟨H.size, 0, none⟩ : Addr).add 5) = some (.bool x54) ∧ ∃ x55 : Bool, rd H7 ((⟨H.size, 0, none⟩ : Addr).add 6) = some (.bool x55) ∧ ∃ x56 : Int, rd H7 ((⟨H.size, 0, none⟩ : Addr).add 7) = some (.int .i64 x56) ∧ ∃ x57 : Int, rd H7 ((⟨H.size, 0, none⟩ : Addr).add 8) = some (.int .i64 x57) ∧ ∃ x58 : Int, rd H7 ((⟨H.size, 0, none⟩ : Addr).add 9) = some (.int .i64 x58) ∧ ∃ x59 : Sl, rd H7 ((⟨H.size, 0, none⟩ : Addr).add 10) = some (.slice x59.p x59.n x59.c) ∧ (
  CallsH Try.prog n_law18_some #[.agg #[.int .i64 x49, .int .i64 x50, .int .i64 x51, .int .i64 x52, .bool x53, .bool x54, .bool x55, .int .i64 x56, .int .i64 x57, .int .i64 x58, .slice x59.p x59.n x59.c]] H7 (fun v4 H8 =>
  ∃ x60 : Int, ∃ x61 : Int, ∃ x62 : Int, ∃ x63 : Int, ∃ x64 : Bool, ∃ x65 : Bool, ∃ x66 : Bool, ∃ x67 : Int, ∃ x68 : Int, ∃ x69 : Int, ∃ x70 : Sl, v4 = .agg #[.int .i64 x60, .int .i64 x61, .int .i64 x62, .int .i64 x63, .bool x64, .bool x65, .bool x66, .int .i64 x67, .int .i64 x68, .int .i64 x69, .slice x70.p x70.n x70.c] ∧ (
  okRow H8 (⟨H.size, 0, none⟩ : Addr) 11 ∧ (
  letH (wrs H8 (⟨H.size, 0, none⟩ : Addr) [.int .i64 x60, .int .i64 x61, .int .i64 x62, .int .i64 x63, .bool x64, .bool x65, .bool x66, .int .i64 x67, .int .i64 x68, .int .i64 x69, .slice x70.p x70.n x70.c]) (fun H9 : Heap =>
  letV (IntKind.i64.wrap (k + (1 : Int))) (fun k1 : Int =>
  I_ k1 H9 ∧ M_ k1 H9 < M_ k H2))))))

def F_law18_PciconfValidates_r2 (R : Value → Heap → Prop) (H : Heap) (I_ : Int → Heap → Prop) (M_ : Int → Heap → Nat) (k : Int) (H2 : Heap) : Prop :=
  iteB (decide (k < (2 : Int))) (
  ∃ x : Int, rd H2 (⟨H.size, 0, none⟩ : Addr) = some (.int .i64 x) ∧ ∃ x1 : Int, rd H2 ((⟨H.size, 0, none⟩ : Addr).add 1) = some (.int .i64 x1) ∧ ∃ x2 : Int, rd H2 ((⟨H.size, 0, none⟩ : Addr).add 2) = some (.int .i64 x2) ∧ ∃ x3 : Int, rd H2 ((⟨H.size, 0, none⟩ : Addr).add 3) = some (.int .i64 x3) ∧ ∃ x4 : Bool, rd H2 ((⟨H.size, 0, none⟩ : Addr).add 4) = some (.bool x4) ∧ ∃ x5 : Bool, rd H2 ((⟨H.size, 0, none⟩ : Addr).add 5) = some (.bool x5) ∧ ∃ x6 : Bool, rd H2 ((⟨H.size, 0, none⟩ : Addr).add 6) = some (.bool x6) ∧ ∃ x7 : Int, rd H2 ((⟨H.size, 0, none⟩ : Addr).add 7) = some (.int .i64 x7) ∧ ∃ x8 : Int, rd H2 ((⟨H.size, 0, none⟩ : Addr).add 8) = some (.int .i64 x8) ∧ ∃ x9 : Int, rd H2 ((⟨H.size, 0, none⟩ : Addr).add 9) = some (.int .i64 x9) ∧ ∃ x10 : Sl, rd H2 ((⟨H.size, 0, none⟩ : Addr).add 10) = some (.slice x10.p x10.n x10.c) ∧ (
  CallsH Try.prog n_pciconf_New #[.agg #[.int .i64 x, .int .i64 x1, .int .i64 x2, .int .i64 x3, .bool x4, .bool x5, .bool x6, .int .i64 x7, .int .i64 x8, .int .i64 x9, .slice x10.p x10.n x10.c]] H2 (fun v H3 =>
  ∃ x11 : Option Addr, ∃ x12 : Int, v = .tuple #[.pointer x11, .int .i64 x12] ∧ (
  ∃ J_ : Heap → Prop, (
  ∃ x13 : Int, rd H3 (⟨H.size, 0, none⟩ : Addr) = some (.int .i64 x13) ∧ ∃ x14 : Int, rd H3 ((⟨H.size, 0, none⟩ : Addr).add 1) = some (.int .i64 x14) ∧ ∃ x15 : Int, rd H3 ((⟨H.size, 0, none⟩ : Addr).add 2) = some (.int .i64 x15) ∧ ∃ x16 : Int, rd H3 ((⟨H.size, 0, none⟩ : Addr).add 3) = some (.int .i64 x16) ∧ ∃ x17 : Bool, rd H3 ((⟨H.size, 0, none⟩ : Addr).add 4) = some (.bool x17) ∧ ∃ x18 : Bool, rd H3 ((⟨H.size, 0, none⟩ : Addr).add 5) = some (.bool x18) ∧ ∃ x19 : Bool, rd H3 ((⟨H.size, 0, none⟩ : Addr).add 6) = some (.bool x19) ∧ ∃ x20 : Int, rd H3 ((⟨H.size, 0, none⟩ : Addr).add 7) = some (.int .i64 x20) ∧ ∃ x21 : Int, rd H3 ((⟨H.size, 0, none⟩ : Addr).add 8) = some (.int .i64 x21) ∧ ∃ x22 : Int, rd H3 ((⟨H.size, 0, none⟩ : Addr).add 9) = some (.int .i64 x22) ∧ ∃ x23 : Sl, rd H3 ((⟨H.size, 0, none⟩ : Addr).add 10) = some (.slice x23.p x23.n x23.c) ∧ (
  ∃ x24 : Int, rd H3 (⟨H.size, 0, none⟩ : Addr) = some (.int .i64 x24) ∧ ∃ x25 : Int, rd H3 ((⟨H.size, 0, none⟩ : Addr).add 1) = some (.int .i64 x25) ∧ ∃ x26 : Int, rd H3 ((⟨H.size, 0, none⟩ : Addr).add 2) = some (.int .i64 x26) ∧ ∃ x27 : Int, rd H3 ((⟨H.size, 0, none⟩ : Addr).add 3) = some (.int .i64 x27) ∧ ∃ x28 : Bool, rd H3 ((⟨H.size, 0, none⟩ : Addr).add 4) = some (.bool x28) ∧ ∃ x29 : Bool, rd H3 ((⟨H.size, 0, none⟩ : Addr).add 5) = some (.bool x29) ∧ ∃ x30 : Bool, rd H3 ((⟨H.size, 0, none⟩ : Addr).add 6) = some (.bool x30) ∧ ∃ x31 : Int, rd H3 ((⟨H.size, 0, none⟩ : Addr).add 7) = some (.int .i64 x31) ∧ ∃ x32 : Int, rd H3 ((⟨H.size, 0, none⟩ : Addr).add 8) = some (.int .i64 x32) ∧ ∃ x33 : Int, rd H3 ((⟨H.size, 0, none⟩ : Addr).add 9) = some (.int .i64 x33) ∧ ∃ x34 : Sl, rd H3 ((⟨H.size, 0, none⟩ : Addr).add 10) = some (.slice x34.p x34.n x34.c) ∧ (
  CallsH Try.prog n_pciconf_Valid #[.agg #[.int .i64 x13, .int .i64 x14, .int .i64 x15, .int .i64 x16, .bool x17, .bool x18, .bool x19, .int .i64 x20, .int .i64 x21, .int .i64 x22, .slice x23.p x23.n x23.c]] H3 (fun v1 H4 =>
  ∃ x35 : Bool, v1 = .bool x35 ∧ (
  Keeps H3 H4 [((⟨H.size, 0, none⟩ : Addr), 11)] ∧ (
  CallsH Try.prog n_ref18_ValidFunction #[.agg #[.int .i64 x24, .int .i64 x25, .int .i64 x26, .int .i64 x27, .bool x28, .bool x29, .bool x30, .int .i64 x31, .int .i64 x32, .int .i64 x33, .slice x34.p x34.n x34.c]] H4 (fun v2 H5 =>
  ∃ x36 : Bool, v2 = .bool x36 ∧ (
  iteB (!(x35 == x36)) (
  R (.bool false) H5) (
  ∃ x37 : Int, rd H5 (⟨H.size, 0, none⟩ : Addr) = some (.int .i64 x37) ∧ ∃ x38 : Int, rd H5 ((⟨H.size, 0, none⟩ : Addr).add 1) = some (.int .i64 x38) ∧ ∃ x39 : Int, rd H5 ((⟨H.size, 0, none⟩ : Addr).add 2) = some (.int .i64 x39) ∧ ∃ x40 : Int, rd H5 ((⟨H.size, 0, none⟩ : Addr).add 3) = some (.int .i64 x40) ∧ ∃ x41 : Bool, rd H5 ((⟨H.size, 0, none⟩ : Addr).add 4) = some (.bool x41) ∧ ∃ x42 : Bool, rd H5 ((⟨H.size, 0, none⟩ : Addr).add 5) = some (.bool x42) ∧ ∃ x43 : Bool, rd H5 ((⟨H.size, 0, none⟩ : Addr).add 6) = some (.bool x43) ∧ ∃ x44 : Int, rd H5 ((⟨H.size, 0, none⟩ : Addr).add 7) = some (.int .i64 x44) ∧ ∃ x45 : Int, rd H5 ((⟨H.size, 0, none⟩ : Addr).add 8) = some (.int .i64 x45) ∧ ∃ x46 : Int, rd H5 ((⟨H.size, 0, none⟩ : Addr).add 9) = some (.int .i64 x46) ∧ ∃ x47 : Sl, rd H5 ((⟨H.size, 0, none⟩ : Addr).add 10) = some (.slice x47.p x47.n x47.c) ∧ (
  CallsH Try.prog n_ref18_ValidFunction #[.agg #[.int .i64 x37, .int .i64 x38, .int .i64 x39, .int .i64 x40, .bool x41, .bool x42, .bool x43, .int .i64 x44, .int .i64 x45, .int .i64 x46, .slice x47.p x47.n x47.c]] H5 (fun v3 H6 =>
  ∃ x48 : Bool, v3 = .bool x48 ∧ (
  iteB (!((x12 == (0 : Int)) == x48)) (
  R (.bool false) H6) (
  iteB (!((!x11.isNone) == (x12 == (0 : Int)))) (
  R (.bool false) H6) (
  iteB (x12 != (0 : Int)) (
  iteB (x12 != (1 : Int)) (
  R (.bool false) H6) (
  J_ H6)) (
  J_ H6))))))))))))))) ∧ (∀ H7 : Heap, J_ H7 → F_law18_PciconfValidates_k1 H I_ M_ k H2 H7))))) (
  CallsH Try.prog n_law18_awake #[] H2 (fun v5 H10 =>
  ∃ x71 : Bool, v5 = .bool x71 ∧ (
  R (.bool x71) H10)))

def F_law18_PciconfValidates (R : Value → Heap → Prop) (f_0 : Int) (f_1 : Int) (f_2 : Int) (f_3 : Int) (f_4 : Bool) (f_5 : Bool) (f_6 : Bool) (f_7 : Int) (f_8 : Int) (f_9 : Int) (f_10 : Sl) (H : Heap) : Prop :=
  letH (H.push (.cells #[.int .i64 f_0, .int .i64 f_1, .int .i64 f_2, .int .i64 f_3, .bool f_4, .bool f_5, .bool f_6, .int .i64 f_7, .int .i64 f_8, .int .i64 f_9, .slice f_10.p f_10.n f_10.c] t_api_Function (0, 0))) (fun H1 : Heap =>
  ∃ I_ : Int → Heap → Prop, ∃ M_ : Int → Heap → Nat, I_ (0 : Int) H1 ∧ (∀ k : Int, ∀ H2 : Heap, I_ k H2 → F_law18_PciconfValidates_r2 R H I_ M_ k H2))

theorem F_law18_PciconfValidates_eq (R : Value → Heap → Prop) (f_0 : Int) (f_1 : Int) (f_2 : Int) (f_3 : Int) (f_4 : Bool) (f_5 : Bool) (f_6 : Bool) (f_7 : Int) (f_8 : Int) (f_9 : Int) (f_10 : Sl) (H : Heap) : wpF Try.prog Try.f3 [(3, .int .i64 0)] [(7, [], [1, 3])] [(2, [3], [1])] [19] [.agg #[.int .i64 f_0, .int .i64 f_1, .int .i64 f_2, .int .i64 f_3, .bool f_4, .bool f_5, .bool f_6, .int .i64 f_7, .int .i64 f_8, .int .i64 f_9, .slice f_10.p f_10.n f_10.c]] H R = F_law18_PciconfValidates R f_0 f_1 f_2 f_3 f_4 f_5 f_6 f_7 f_8 f_9 f_10 H := by kernel_rfl

theorem F_law18_PciconfValidates_ok {R : Value → Heap → Prop} (f_0 : Int) (f_1 : Int) (f_2 : Int) (f_3 : Int) (f_4 : Bool) (f_5 : Bool) (f_6 : Bool) (f_7 : Int) (f_8 : Int) (f_9 : Int) (f_10 : Sl) {H : Heap} (h : F_law18_PciconfValidates R f_0 f_1 f_2 f_3 f_4 f_5 f_6 f_7 f_8 f_9 f_10 H) : CallsH Try.prog n_law18_PciconfValidates #[.agg #[.int .i64 f_0, .int .i64 f_1, .int .i64 f_2, .int .i64 f_3, .bool f_4, .bool f_5, .bool f_6, .int .i64 f_7, .int .i64 f_8, .int .i64 f_9, .slice f_10.p f_10.n f_10.c]] H R :=
  wpF_ok Try.func3 (F_law18_PciconfValidates_eq R f_0 f_1 f_2 f_3 f_4 f_5 f_6 f_7 f_8 f_9 f_10 H) h

/-! ### 4: platformfw/platformfwlaw18.PciconfReadOnly -/

def F_law18_PciconfReadOnly_r1 (l : Sl) (x46 : Option Addr) (J_ : Heap → Prop) (I_ : Int → Heap → Prop) (M_ : Int → Heap → Nat) (i : Int) (H11 : Heap) : Prop :=
  iteB (decide (i < (l.n : Int))) (
  iteB (decide (i < (40 : Int))) (
  0 ≤ i ∧ i < (l.n : Int) ∧ (unSome l.p (fun a =>
  ∃ x74 : Int, rd H11 (a.add (i.toNat * 5)) = some (.int .i64 x74) ∧ ∃ x75 : Int, rd H11 ((a.add (i.toNat * 5)).add 1) = some (.int .i64 x75) ∧ ∃ x76 : Bool, rd H11 ((a.add (i.toNat * 5)).add 2) = some (.bool x76) ∧ ∃ x77 : Int, rd H11 ((a.add (i.toNat * 5)).add 3) = some (.int .u64 x77) ∧ ∃ x78 : Bool, rd H11 ((a.add (i.toNat * 5)).add 4) = some (.bool x78) ∧ (
  CallsH Try.prog n_law18_access #[.agg #[.int .i64 x74, .int .i64 x75, .bool x76, .int .u64 x77, .bool x78]] H11 (fun v7 H12 =>
  ∃ x79 : Int, ∃ x80 : Int, v7 = .tuple #[.int .i64 x79, .int .i64 x80] ∧ (
  0 ≤ i ∧ i < (l.n : Int) ∧ (unSome l.p (fun a1 =>
  ∃ x81 : Int, rd H12 ((a1.add (i.toNat * 5)).add 3) = some (.int .u64 x81) ∧ (
  CallsH Try.prog n_pciconf_Device_Write #[.pointer x46, .int .i64 x79, .int .i64 x80, .int .u64 x81] H12 (fun v8 H13 =>
  v8 = .tuple #[] ∧ (
  letV (IntKind.i64.wrap (i + (1 : Int))) (fun i1 : Int =>
  I_ i1 H13 ∧ M_ i1 H13 < M_ i H11)))))))))))) (
  J_ H11)) (
  J_ H11)

def F_law18_PciconfReadOnly_r2 (R : Value → Heap → Prop) (H2 : Heap) (x46 : Option Addr) (x59 : Option Addr) (x73 : Option Addr) (I_1 : Int → Heap → Prop) (M_1 : Int → Heap → Nat) (atv : Int) (H15 : Heap) : Prop :=
  iteB (decide (atv < (256 : Int))) (
  CallsH Try.prog n_pciconf_Device_Read #[.pointer x59, .int .i64 atv, .int .i64 (4 : Int)] H15 (fun v9 H16 =>
  ∃ x82 : Int, v9 = .int .u64 x82 ∧ (
  CallsH Try.prog n_ref18_Device_Read #[.pointer x73, .int .i64 atv, .int .i64 (4 : Int)] H16 (fun v10 H17 =>
  ∃ x83 : Int, v10 = .int .u64 x83 ∧ (
  iteB (x82 != x83) (
  R (.bool false) H17) (
  letV (IntKind.i64.wrap (atv + (4 : Int))) (fun atv1 : Int =>
  I_1 atv1 H17 ∧ M_1 atv1 H17 < M_1 atv H15))))))) (
  ∃ x84 : Int, rd H15 ((⟨H2.size, 0, none⟩ : Addr).add 2) = some (.int .i64 x84) ∧ (
  CallsH Try.prog n_pciconf_Device_Read #[.pointer x46, .int .i64 (0 : Int), .int .i64 (2 : Int)] H15 (fun v11 H18 =>
  ∃ x85 : Int, v11 = .int .u64 x85 ∧ (
  Keeps H15 H18 [(((⟨H2.size, 0, none⟩ : Addr).add 2), 1)] ∧ (
  iteB (x85 == (IntKind.u64.wrap x84)) (
  ∃ x86 : Int, rd H18 ((⟨H2.size, 0, none⟩ : Addr).add 3) = some (.int .i64 x86) ∧ (
  CallsH Try.prog n_pciconf_Device_Read #[.pointer x46, .int .i64 (2 : Int), .int .i64 (2 : Int)] H18 (fun v12 H19 =>
  ∃ x87 : Int, v12 = .int .u64 x87 ∧ (
  Keeps H18 H19 [(((⟨H2.size, 0, none⟩ : Addr).add 3), 1)] ∧ (
  iteB (x87 == (IntKind.u64.wrap x86)) (
  CallsH Try.prog n_pciconf_Device_Read #[.pointer x46, .int .i64 (14 : Int), .int .i64 (1 : Int)] H19 (fun v13 H20 =>
  ∃ x88 : Int, v13 = .int .u64 x88 ∧ (
  CallsH Try.prog n_ref18_Device_Read #[.pointer x73, .int .i64 (14 : Int), .int .i64 (1 : Int)] H20 (fun v14 H21 =>
  ∃ x89 : Int, v14 = .int .u64 x89 ∧ (
  iteB (x88 == x89) (
  ∃ x90 : Int, rd H21 ((⟨H2.size, 0, none⟩ : Addr).add 8) = some (.int .i64 x90) ∧ (
  CallsH Try.prog n_pciconf_Device_Read #[.pointer x46, .int .i64 (61 : Int), .int .i64 (1 : Int)] H21 (fun v15 H22 =>
  ∃ x91 : Int, v15 = .int .u64 x91 ∧ (
  Keeps H21 H22 [(((⟨H2.size, 0, none⟩ : Addr).add 8), 1)] ∧ (
  R (.bool (x91 == (IntKind.u64.wrap x90))) H22))))) (
  R (.bool false) H21)))))) (
  R (.bool false) H19)))))) (
  R (.bool false) H18))))))

def F_law18_PciconfReadOnly_k3 (R : Value → Heap → Prop) (H2 : Heap) (x46 : Option Addr) (x59 : Option Addr) (x73 : Option Addr) (H14 : Heap) : Prop :=
  ∃ I_1 : Int → Heap → Prop, ∃ M_1 : Int → Heap → Nat, I_1 (0 : Int) H14 ∧ (∀ atv : Int, ∀ H15 : Heap, I_1 atv H15 → F_law18_PciconfReadOnly_r2 R H2 x46 x59 x73 I_1 M_1 atv H15)

def F_law18_PciconfReadOnly (R : Value → Heap → Prop) (f_0 : Int) (f_1 : Int) (f_2 : Int) (f_3 : Int) (f_4 : Bool) (f_5 : Bool) (f_6 : Bool) (f_7 : Int) (f_8 : Int) (f_9 : Int) (f_10 : Sl) (l : Sl) (H : Heap) : Prop :=
  letH (H.push (.cells #[.int .i64 f_0, .int .i64 f_1, .int .i64 f_2, .int .i64 f_3, .bool f_4, .bool f_5, .bool f_6, .int .i64 f_7, .int .i64 f_8, .int .i64 f_9, .slice f_10.p f_10.n f_10.c] t_api_Function (0, 0))) (fun H1 : Heap =>
  ∃ x : Int, rd H1 (⟨H.size, 0, none⟩ : Addr) = some (.int .i64 x) ∧ ∃ x1 : Int, rd H1 ((⟨H.size, 0, none⟩ : Addr).add 1) = some (.int .i64 x1) ∧ ∃ x2 : Int, rd H1 ((⟨H.size, 0, none⟩ : Addr).add 2) = some (.int .i64 x2) ∧ ∃ x3 : Int, rd H1 ((⟨H.size, 0, none⟩ : Addr).add 3) = some (.int .i64 x3) ∧ ∃ x4 : Bool, rd H1 ((⟨H.size, 0, none⟩ : Addr).add 4) = some (.bool x4) ∧ ∃ x5 : Bool, rd H1 ((⟨H.size, 0, none⟩ : Addr).add 5) = some (.bool x5) ∧ ∃ x6 : Bool, rd H1 ((⟨H.size, 0, none⟩ : Addr).add 6) = some (.bool x6) ∧ ∃ x7 : Int, rd H1 ((⟨H.size, 0, none⟩ : Addr).add 7) = some (.int .i64 x7) ∧ ∃ x8 : Int, rd H1 ((⟨H.size, 0, none⟩ : Addr).add 8) = some (.int .i64 x8) ∧ ∃ x9 : Int, rd H1 ((⟨H.size, 0, none⟩ : Addr).add 9) = some (.int .i64 x9) ∧ ∃ x10 : Sl, rd H1 ((⟨H.size, 0, none⟩ : Addr).add 10) = some (.slice x10.p x10.n x10.c) ∧ (
  CallsH Try.prog n_law18_some #[.agg #[.int .i64 x, .int .i64 x1, .int .i64 x2, .int .i64 x3, .bool x4, .bool x5, .bool x6, .int .i64 x7, .int .i64 x8, .int .i64 x9, .slice x10.p x10.n x10.c]] H1 (fun v H2 =>
  ∃ x11 : Int, ∃ x12 : Int, ∃ x13 : Int, ∃ x14 : Int, ∃ x15 : Bool, ∃ x16 : Bool, ∃ x17 : Bool, ∃ x18 : Int, ∃ x19 : Int, ∃ x20 : Int, ∃ x21 : Sl, v = .agg #[.int .i64 x11, .int .i64 x12, .int .i64 x13, .int .i64 x14, .bool x15, .bool x16, .bool x17, .int .i64 x18, .int .i64 x19, .int .i64 x20, .slice x21.p x21.n x21.c] ∧ (
  letH (H2.push (.cells #[.int .i64 (0 : Int), .int .i64 (0 : Int), .int .i64 (0 : Int), .int .i64 (0 : Int), .bool false, .bool false, .bool false, .int .i64 (0 : Int), .int .i64 (0 : Int), .int .i64 (0 : Int), .slice none 0 0] t_api_Function (0, 0))) (fun H3 : Heap =>
  okRow H3 (⟨H2.size, 0, none⟩ : Addr) 11 ∧ (
  letH (wrs H3 (⟨H2.size, 0, none⟩ : Addr) [.int .i64 x11, .int .i64 x12, .int .i64 x13, .int .i64 x14, .bool x15, .bool x16, .bool x17, .int .i64 x18, .int .i64 x19, .int .i64 x20, .slice x21.p x21.n x21.c]) (fun H4 : Heap =>
  ∃ x22 : Int, rd H4 (⟨H2.size, 0, none⟩ : Addr) = some (.int .i64 x22) ∧ ∃ x23 : Int, rd H4 ((⟨H2.size, 0, none⟩ : Addr).add 1) = some (.int .i64 x23) ∧ ∃ x24 : Int, rd H4 ((⟨H2.size, 0, none⟩ : Addr).add 2) = some (.int .i64 x24) ∧ ∃ x25 : Int, rd H4 ((⟨H2.size, 0, none⟩ : Addr).add 3) = some (.int .i64 x25) ∧ ∃ x26 : Bool, rd H4 ((⟨H2.size, 0, none⟩ : Addr).add 4) = some (.bool x26) ∧ ∃ x27 : Bool, rd H4 ((⟨H2.size, 0, none⟩ : Addr).add 5) = some (.bool x27) ∧ ∃ x28 : Bool, rd H4 ((⟨H2.size, 0, none⟩ : Addr).add 6) = some (.bool x28) ∧ ∃ x29 : Int, rd H4 ((⟨H2.size, 0, none⟩ : Addr).add 7) = some (.int .i64 x29) ∧ ∃ x30 : Int, rd H4 ((⟨H2.size, 0, none⟩ : Addr).add 8) = some (.int .i64 x30) ∧ ∃ x31 : Int, rd H4 ((⟨H2.size, 0, none⟩ : Addr).add 9) = some (.int .i64 x31) ∧ ∃ x32 : Sl, rd H4 ((⟨H2.size, 0, none⟩ : Addr).add 10) = some (.slice x32.p x32.n x32.c) ∧ (
  CallsH Try.prog n_ref18_ValidFunction #[.agg #[.int .i64 x22, .int .i64 x23, .int .i64 x24, .int .i64 x25, .bool x26, .bool x27, .bool x28, .int .i64 x29, .int .i64 x30, .int .i64 x31, .slice x32.p x32.n x32.c]] H4 (fun v1 H5 =>
  ∃ x33 : Bool, v1 = .bool x33 ∧ (
  iteB (!x33) (
  CallsH Try.prog n_law18_awake #[] H5 (fun v2 H6 =>
  ∃ x34 : Bool, v2 = .bool x34 ∧ (
  R (.bool x34) H6))) (
  ∃ x35 : Int, rd H5 (⟨H2.size, 0, none⟩ : Addr) = some (.int .i64 x35) ∧ ∃ x36 : Int, rd H5 ((⟨H2.size, 0, none⟩ : Addr).add 1) = some (.int .i64 x36) ∧ ∃ x37 : Int, rd H5 ((⟨H2.size, 0, none⟩ : Addr).add 2) = some (.int .i64 x37) ∧ ∃ x38 : Int, rd H5 ((⟨H2.size, 0, none⟩ : Addr).add 3) = some (.int .i64 x38) ∧ ∃ x39 : Bool, rd H5 ((⟨H2.size, 0, none⟩ : Addr).add 4) = some (.bool x39) ∧ ∃ x40 : Bool, rd H5 ((⟨H2.size, 0, none⟩ : Addr).add 5) = some (.bool x40) ∧ ∃ x41 : Bool, rd H5 ((⟨H2.size, 0, none⟩ : Addr).add 6) = some (.bool x41) ∧ ∃ x42 : Int, rd H5 ((⟨H2.size, 0, none⟩ : Addr).add 7) = some (.int .i64 x42) ∧ ∃ x43 : Int, rd H5 ((⟨H2.size, 0, none⟩ : Addr).add 8) = some (.int .i64 x43) ∧ ∃ x44 : Int, rd H5 ((⟨H2.size, 0, none⟩ : Addr).add 9) = some (.int .i64 x44) ∧ ∃ x45 : Sl, rd H5 ((⟨H2.size, 0, none⟩ : Addr).add 10) = some (.slice x45.p x45.n x45.c) ∧ (
  CallsH Try.prog n_pciconf_New #[.agg #[.int .i64 x35, .int .i64 x36, .int .i64 x37, .int .i64 x38, .bool x39, .bool x40, .bool x41, .int .i64 x42, .int .i64 x43, .int .i64 x44, .slice x45.p x45.n x45.c]] H5 (fun v3 H7 =>
  ∃ x46 : Option Addr, ∃ x47 : Int, v3 = .tuple #[.pointer x46, .int .i64 x47] ∧ (
  ∃ x48 : Int, rd H7 (⟨H2.size, 0, none⟩ : Addr) = some (.int .i64 x48) ∧ ∃ x49 : Int, rd H7 ((⟨H2.size, 0, none⟩ : Addr).add 1) = some (.int .i64 x49) ∧ ∃ x50 : Int, rd H7 ((⟨H2.size, 0, none⟩ : Addr).add 2) = some (.int .i64 x50) ∧ ∃ x51 : Int, rd H7 ((⟨H2.size, 0, none⟩ : Addr).add 3) = some (.int .i64 x51) ∧ ∃ x52 : Bool, rd H7 ((⟨H2.size, 0, none⟩ : Addr).add 4) = some (.bool x52) ∧ ∃ x53 : Bool, rd H7 ((⟨H2.size, 0, none⟩ : Addr).add 5) = some (.bool x53) ∧ ∃ x54 : Bool, rd H7 ((⟨H2.size, 0, none⟩ : Addr).add 6) = some (.bool x54) ∧ ∃ x55 : Int, rd H7 ((⟨H2.size, 0, none⟩ : Addr).add 7) = some (.int .i64 x55) ∧ ∃ x56 : Int, rd H7 ((⟨H2.size, 0, none⟩ : Addr).add 8) = some (.int .i64 x56) ∧ ∃ x57 : Int, rd H7 ((⟨H2.size, 0, none⟩ : Addr).add 9) = some (.int .i64 x57) ∧ ∃ x58 : Sl, rd H7 ((⟨H2.size, 0, none⟩ : Addr).add 10) = some (.slice x58.p x58.n x58.c) ∧ (
  CallsH Try.prog n_pciconf_New #[.agg #[.int .i64 x48, .int .i64 x49, .int .i64 x50, .int .i64 x51, .bool x52, .bool x53, .bool x54, .int .i64 x55, .int .i64 x56, .int .i64 x57, .slice x58.p x58.n x58.c]] H7 (fun v4 H8 =>
  ∃ x59 : Option Addr, ∃ x60 : Int, v4 = .tuple #[.pointer x59, .int .i64 x60] ∧ (
  CallsH Try.prog n_law18_awake #[] H8 (fun v5 H9 =>
  ∃ x61 : Bool, v5 = .bool x61 ∧ (
  iteB (!x61) (
  R (.bool false) H9) (
  iteB (x47 != (0 : Int)) (
  R (.bool false) H9) (
  iteB (x60 != (0 : Int)) (
  R (.bool false) H9) (
  iteB x46.isNone (
  R (.bool false) H9) (
  iteB x59.isNone (
  R (.bool false) H9) (
  ∃ x62 : Int, rd H9 (⟨H2.size, 0, none⟩ : Addr) = some (.int .i64 x62) ∧ ∃ x63 : Int, rd H9 ((⟨H2.size, 0, none⟩ : Addr).add 1) = some (.int .i64 x63) ∧ ∃ x64 : Int, rd H9 ((⟨H2.size, 0, none⟩ : Addr).add 2) = some (.int .i64 x64) ∧ ∃ x65 : Int, rd H9 ((⟨H2.size, 0, none⟩ : Addr).add 3) = some (.int .i64 x65) ∧ ∃ x66 : Bool, rd H9 ((⟨H2.size, 0, none⟩ : Addr).add 4) = some (.bool x66) ∧ ∃ x67 : Bool, rd H9 ((⟨H2.size, 0, none⟩ : Addr).add 5) = some (.bool x67) ∧ ∃ x68 : Bool, rd H9 ((⟨H2.size, 0, none⟩ : Addr).add 6) = some (.bool x68) ∧ ∃ x69 : Int, rd H9 ((⟨H2.size, 0, none⟩ : Addr).add 7) = some (.int .i64 x69) ∧ ∃ x70 : Int, rd H9 ((⟨H2.size, 0, none⟩ : Addr).add 8) = some (.int .i64 x70) ∧ ∃ x71 : Int, rd H9 ((⟨H2.size, 0, none⟩ : Addr).add 9) = some (.int .i64 x71) ∧ ∃ x72 : Sl, rd H9 ((⟨H2.size, 0, none⟩ : Addr).add 10) = some (.slice x72.p x72.n x72.c) ∧ (
  CallsH Try.prog n_ref18_NewDevice #[.agg #[.int .i64 x62, .int .i64 x63, .int .i64 x64, .int .i64 x65, .bool x66, .bool x67, .bool x68, .int .i64 x69, .int .i64 x70, .int .i64 x71, .slice x72.p x72.n x72.c]] H9 (fun v6 H10 =>
  ∃ x73 : Option Addr, v6 = .pointer x73 ∧ (
  ∃ J_ : Heap → Prop, (
  ∃ I_ : Int → Heap → Prop, ∃ M_ : Int → Heap → Nat, I_ (0 : Int) H10 ∧ (∀ i : Int, ∀ H11 : Heap, I_ i H11 → F_law18_PciconfReadOnly_r1 l x46 J_ I_ M_ i H11)) ∧ (∀ H14 : Heap, J_ H14 → F_law18_PciconfReadOnly_k3 R H2 x46 x59 x73 H14))))))))))))))))))))))))))))

theorem F_law18_PciconfReadOnly_eq (R : Value → Heap → Prop) (f_0 : Int) (f_1 : Int) (f_2 : Int) (f_3 : Int) (f_4 : Bool) (f_5 : Bool) (f_6 : Bool) (f_7 : Int) (f_8 : Int) (f_9 : Int) (f_10 : Sl) (l : Sl) (H : Heap) : wpF Try.prog Try.f4 [(11, .int .i64 0), (14, .int .i64 0)] [(14, [], [5, 6, 8, 10])] [(10, [11], [1, 5, 6, 8, 10]), (15, [14], [5, 6, 8, 10])] [19] [.agg #[.int .i64 f_0, .int .i64 f_1, .int .i64 f_2, .int .i64 f_3, .bool f_4, .bool f_5, .bool f_6, .int .i64 f_7, .int .i64 f_8, .int .i64 f_9, .slice f_10.p f_10.n f_10.c], .slice l.p l.n l.c] H R = F_law18_PciconfReadOnly R f_0 f_1 f_2 f_3 f_4 f_5 f_6 f_7 f_8 f_9 f_10 l H := by kernel_rfl

theorem F_law18_PciconfReadOnly_ok {R : Value → Heap → Prop} (f_0 : Int) (f_1 : Int) (f_2 : Int) (f_3 : Int) (f_4 : Bool) (f_5 : Bool) (f_6 : Bool) (f_7 : Int) (f_8 : Int) (f_9 : Int) (f_10 : Sl) (l : Sl) {H : Heap} (h : F_law18_PciconfReadOnly R f_0 f_1 f_2 f_3 f_4 f_5 f_6 f_7 f_8 f_9 f_10 l H) : CallsH Try.prog n_law18_PciconfReadOnly #[.agg #[.int .i64 f_0, .int .i64 f_1, .int .i64 f_2, .int .i64 f_3, .bool f_4, .bool f_5, .bool f_6, .int .i64 f_7, .int .i64 f_8, .int .i64 f_9, .slice f_10.p f_10.n f_10.c], .slice l.p l.n l.c] H R :=
  wpF_ok Try.func4 (F_law18_PciconfReadOnly_eq R f_0 f_1 f_2 f_3 f_4 f_5 f_6 f_7 f_8 f_9 f_10 l H) h

/-! ### 5: platformfw/platformfwlaw18.PciconfProbes -/

def F_law18_PciconfProbes_r1 (l : Sl) (x48 : Option Addr) (J_1 : Heap → Prop) (I_ : Int → Heap → Prop) (M_ : Int → Heap → Nat) (i : Int) (H10 : Heap) : Prop :=
  iteB (decide (i < (l.n : Int))) (
  iteB (decide (i < (20 : Int))) (
  0 ≤ i ∧ i < (l.n : Int) ∧ (unSome l.p (fun a =>
  ∃ x50 : Int, rd H10 (a.add (i.toNat * 5)) = some (.int .i64 x50) ∧ ∃ x51 : Int, rd H10 ((a.add (i.toNat * 5)).add 1) = some (.int .i64 x51) ∧ ∃ x52 : Bool, rd H10 ((a.add (i.toNat * 5)).add 2) = some (.bool x52) ∧ ∃ x53 : Int, rd H10 ((a.add (i.toNat * 5)).add 3) = some (.int .u64 x53) ∧ ∃ x54 : Bool, rd H10 ((a.add (i.toNat * 5)).add 4) = some (.bool x54) ∧ (
  CallsH Try.prog n_law18_access #[.agg #[.int .i64 x50, .int .i64 x51, .bool x52, .int .u64 x53, .bool x54]] H10 (fun v5 H11 =>
  ∃ x55 : Int, ∃ x56 : Int, v5 = .tuple #[.int .i64 x55, .int .i64 x56] ∧ (
  0 ≤ i ∧ i < (l.n : Int) ∧ (unSome l.p (fun a1 =>
  ∃ x57 : Int, rd H11 ((a1.add (i.toNat * 5)).add 3) = some (.int .u64 x57) ∧ (
  CallsH Try.prog n_pciconf_Device_Write #[.pointer x48, .int .i64 x55, .int .i64 x56, .int .u64 x57] H11 (fun v6 H12 =>
  v6 = .tuple #[] ∧ (
  letV (IntKind.i64.wrap (i + (1 : Int))) (fun i1 : Int =>
  I_ i1 H12 ∧ M_ i1 H12 < M_ i H10)))))))))))) (
  J_1 H10)) (
  J_1 H10)

def F_law18_PciconfProbes_k2 (R : Value → Heap → Prop) (bars : Sl) (I_3 : Int → Heap → Prop) (M_3 : Int → Heap → Nat) (i6 : Int) (H22 : Heap) (H26 : Heap) : Prop :=
  0 ≤ i6 ∧ i6 < (bars.n : Int) ∧ (unSome bars.p (fun a3 =>
  ∃ x77 : Int, rd H26 (a3.add (i6.toNat * 2)) = some (.int .i64 x77) ∧ ∃ x78 : Int, rd H26 ((a3.add (i6.toNat * 2)).add 1) = some (.int .i64 x78) ∧ (
  ∃ x79 : Int, rd H26 (⟨H22.size, 0, none⟩ : Addr) = some (.int .i64 x79) ∧ ∃ x80 : Int, rd H26 ((⟨H22.size, 0, none⟩ : Addr).add 1) = some (.int .i64 x80) ∧ (
  iteB (!((x77 == x79) && ((x78 == x80) && true))) (
  R (.bool false) H26) (
  letV (IntKind.i64.wrap (i6 + (1 : Int))) (fun i7 : Int =>
  I_3 i7 H26 ∧ M_3 i7 H26 < M_3 i6 H22))))))

def F_law18_PciconfProbes_r3 (R : Value → Heap → Prop) (H2 : Heap) (bars : Sl) (I_3 : Int → Heap → Prop) (M_3 : Int → Heap → Nat) (i6 : Int) (H22 : Heap) : Prop :=
  iteB (decide (i6 < (bars.n : Int))) (
  letH (H22.push (.cells #[.int .i64 (0 : Int), .int .i64 (0 : Int)] t_api_Bar (0, 0))) (fun H23 : Heap =>
  okRow H23 (⟨H22.size, 0, none⟩ : Addr) 2 ∧ (
  letH (wrs H23 (⟨H22.size, 0, none⟩ : Addr) [.int .i64 (0 : Int), .int .i64 (0 : Int)]) (fun H24 : Heap =>
  ∃ J_2 : Heap → Prop, (
  ∃ x73 : Sl, rd H24 ((⟨H2.size, 0, none⟩ : Addr).add 10) = some (.slice x73.p x73.n x73.c) ∧ (
  iteB (decide (i6 < (x73.n : Int))) (
  ∃ x74 : Sl, rd H24 ((⟨H2.size, 0, none⟩ : Addr).add 10) = some (.slice x74.p x74.n x74.c) ∧ (
  0 ≤ i6 ∧ i6 < (x74.n : Int) ∧ (unSome x74.p (fun a2 =>
  ∃ x75 : Int, rd H24 (a2.add (i6.toNat * 2)) = some (.int .i64 x75) ∧ ∃ x76 : Int, rd H24 ((a2.add (i6.toNat * 2)).add 1) = some (.int .i64 x76) ∧ (
  okRow H24 (⟨H22.size, 0, none⟩ : Addr) 2 ∧ (
  letH (wrs H24 (⟨H22.size, 0, none⟩ : Addr) [.int .i64 x75, .int .i64 x76]) (fun H25 : Heap =>
  J_2 H25))))))) (
  J_2 H24))) ∧ (∀ H26 : Heap, J_2 H26 → F_law18_PciconfProbes_k2 R bars I_3 M_3 i6 H22 H26))))) (
  R (.bool true) H22)

def F_law18_PciconfProbes_r4 (R : Value → Heap → Prop) (H2 : Heap) (x48 : Option Addr) (H13 : Heap) (bars : Sl) (I_2 : Int → Heap → Prop) (M_2 : Int → Heap → Nat) (i4 : Int) (H19 : Heap) : Prop :=
  iteB (decide (i4 < (64 : Int))) (
  0 ≤ i4 ∧ i4 < ((64 : Nat) : Int) ∧ (∃ x59 : Int, rd H19 ((⟨H13.size, 0, none⟩ : Addr).add (i4.toNat * 1)) = some (.int .u64 x59) ∧ (
  CallsH Try.prog n_pciconf_Device_Read #[.pointer x48, .int .i64 (IntKind.i64.wrap ((4 : Int) * i4)), .int .i64 (4 : Int)] H19 (fun v9 H20 =>
  ∃ x60 : Int, v9 = .int .u64 x60 ∧ (
  Keeps H19 H20 [(((⟨H13.size, 0, none⟩ : Addr).add (i4.toNat * 1)), 1)] ∧ (
  iteB (x60 != x59) (
  R (.bool false) H20) (
  letV (IntKind.i64.wrap (i4 + (1 : Int))) (fun i5 : Int =>
  I_2 i5 H20 ∧ M_2 i5 H20 < M_2 i4 H19)))))))) (
  ∃ x61 : Int, rd H19 (⟨H2.size, 0, none⟩ : Addr) = some (.int .i64 x61) ∧ ∃ x62 : Int, rd H19 ((⟨H2.size, 0, none⟩ : Addr).add 1) = some (.int .i64 x62) ∧ ∃ x63 : Int, rd H19 ((⟨H2.size, 0, none⟩ : Addr).add 2) = some (.int .i64 x63) ∧ ∃ x64 : Int, rd H19 ((⟨H2.size, 0, none⟩ : Addr).add 3) = some (.int .i64 x64) ∧ ∃ x65 : Bool, rd H19 ((⟨H2.size, 0, none⟩ : Addr).add 4) = some (.bool x65) ∧ ∃ x66 : Bool, rd H19 ((⟨H2.size, 0, none⟩ : Addr).add 5) = some (.bool x66) ∧ ∃ x67 : Bool, rd H19 ((⟨H2.size, 0, none⟩ : Addr).add 6) = some (.bool x67) ∧ ∃ x68 : Int, rd H19 ((⟨H2.size, 0, none⟩ : Addr).add 7) = some (.int .i64 x68) ∧ ∃ x69 : Int, rd H19 ((⟨H2.size, 0, none⟩ : Addr).add 8) = some (.int .i64 x69) ∧ ∃ x70 : Int, rd H19 ((⟨H2.size, 0, none⟩ : Addr).add 9) = some (.int .i64 x70) ∧ ∃ x71 : Sl, rd H19 ((⟨H2.size, 0, none⟩ : Addr).add 10) = some (.slice x71.p x71.n x71.c) ∧ (
  CallsH Try.prog n_ref18_Registers #[.agg #[.int .i64 x61, .int .i64 x62, .int .i64 x63, .int .i64 x64, .bool x65, .bool x66, .bool x67, .int .i64 x68, .int .i64 x69, .int .i64 x70, .slice x71.p x71.n x71.c]] H19 (fun v10 H21 =>
  ∃ x72 : Int, v10 = .int .i64 x72 ∧ (
  iteB ((bars.n : Int) != x72) (
  R (.bool false) H21) (
  ∃ I_3 : Int → Heap → Prop, ∃ M_3 : Int → Heap → Nat, I_3 (0 : Int) H21 ∧ (∀ i6 : Int, ∀ H22 : Heap, I_3 i6 H22 → F_law18_PciconfProbes_r3 R H2 bars I_3 M_3 i6 H22))))))

def F_law18_PciconfProbes_r5 (R : Value → Heap → Prop) (H2 : Heap) (x48 : Option Addr) (H13 : Heap) (I_1 : Int → Heap → Prop) (M_1 : Int → Heap → Nat) (i2 : Int) (H15 : Heap) : Prop :=
  iteB (decide (i2 < (64 : Int))) (
  CallsH Try.prog n_pciconf_Device_Read #[.pointer x48, .int .i64 (IntKind.i64.wrap ((4 : Int) * i2)), .int .i64 (4 : Int)] H15 (fun v7 H16 =>
  ∃ x58 : Int, v7 = .int .u64 x58 ∧ (
  0 ≤ i2 ∧ i2 < ((64 : Nat) : Int) ∧ (okRow H16 ((⟨H13.size, 0, none⟩ : Addr).add (i2.toNat * 1)) 1 ∧ (
  letH (wrs H16 ((⟨H13.size, 0, none⟩ : Addr).add (i2.toNat * 1)) [.int .u64 x58]) (fun H17 : Heap =>
  letV (IntKind.i64.wrap (i2 + (1 : Int))) (fun i3 : Int =>
  I_1 i3 H17 ∧ M_1 i3 H17 < M_1 i2 H15))))))) (
  CallsH Try.prog n_pciconf_Device_Probe #[.pointer x48] H15 (fun v8 H18 =>
  ∃ bars : Sl, v8 = .slice bars.p bars.n bars.c ∧ (
  ∃ I_2 : Int → Heap → Prop, ∃ M_2 : Int → Heap → Nat, I_2 (0 : Int) H18 ∧ (∀ i4 : Int, ∀ H19 : Heap, I_2 i4 H19 → F_law18_PciconfProbes_r4 R H2 x48 H13 bars I_2 M_2 i4 H19))))

def F_law18_PciconfProbes_k6 (R : Value → Heap → Prop) (H2 : Heap) (x48 : Option Addr) (H13 : Heap) : Prop :=
  letH (H13.push (.cells #[.int .u64 (0 : Int), .int .u64 (0 : Int), .int .u64 (0 : Int), .int .u64 (0 : Int), .int .u64 (0 : Int), .int .u64 (0 : Int), .int .u64 (0 : Int), .int .u64 (0 : Int), .int .u64 (0 : Int), .int .u64 (0 : Int), .int .u64 (0 : Int), .int .u64 (0 : Int), .int .u64 (0 : Int), .int .u64 (0 : Int), .int .u64 (0 : Int), .int .u64 (0 : Int), .int .u64 (0 : Int), .int .u64 (0 : Int), .int .u64 (0 : Int), .int .u64 (0 : Int), .int .u64 (0 : Int), .int .u64 (0 : Int), .int .u64 (0 : Int), .int .u64 (0 : Int), .int .u64 (0 : Int), .int .u64 (0 : Int), .int .u64 (0 : Int), .int .u64 (0 : Int), .int .u64 (0 : Int), .int .u64 (0 : Int), .int .u64 (0 : Int), .int .u64 (0 : Int), .int .u64 (0 : Int), .int .u64 (0 : Int), .int .u64 (0 : Int), .int .u64 (0 : Int), .int .u64 (0 : Int), .int .u64 (0 : Int), .int .u64 (0 : Int), .int .u64 (0 : Int), .int .u64 (0 : Int), .int .u64 (0 : Int), .int .u64 (0 : Int), .int .u64 (0 : Int), .int .u64 (0 : Int), .int .u64 (0 : Int), .int .u64 (0 : Int), .int .u64 (0 : Int), .int .u64 (0 : Int), .int .u64 (0 : Int), .int .u64 (0 : Int), .int .u64 (0 : Int), .int .u64 (0 : Int), .int .u64 (0 : Int), .int .u64 (0 : Int), .int .u64 (0 : Int), .int .u64 (0 : Int), .int .u64 (0 : Int), .int .u64 (0 : Int), .int .u64 (0 : Int), .int .u64 (0 : Int), .int .u64 (0 : Int), .int .u64 (0 : Int), .int .u64 (0 : Int)] t_64_uint64 (0, 0))) (fun H14 : Heap =>
  ∃ I_1 : Int → Heap → Prop, ∃ M_1 : Int → Heap → Nat, I_1 (0 : Int) H14 ∧ (∀ i2 : Int, ∀ H15 : Heap, I_1 i2 H15 → F_law18_PciconfProbes_r5 R H2 x48 H13 I_1 M_1 i2 H15))

def F_law18_PciconfProbes_k7 (R : Value → Heap → Prop) (l : Sl) (H2 : Heap) (x35 : Bool) (H7 : Heap) : Prop :=
  iteB x35 (
  CallsH Try.prog n_law18_awake #[] H7 (fun v3 H8 =>
  ∃ x36 : Bool, v3 = .bool x36 ∧ (
  R (.bool x36) H8))) (
  ∃ x37 : Int, rd H7 (⟨H2.size, 0, none⟩ : Addr) = some (.int .i64 x37) ∧ ∃ x38 : Int, rd H7 ((⟨H2.size, 0, none⟩ : Addr).add 1) = some (.int .i64 x38) ∧ ∃ x39 : Int, rd H7 ((⟨H2.size, 0, none⟩ : Addr).add 2) = some (.int .i64 x39) ∧ ∃ x40 : Int, rd H7 ((⟨H2.size, 0, none⟩ : Addr).add 3) = some (.int .i64 x40) ∧ ∃ x41 : Bool, rd H7 ((⟨H2.size, 0, none⟩ : Addr).add 4) = some (.bool x41) ∧ ∃ x42 : Bool, rd H7 ((⟨H2.size, 0, none⟩ : Addr).add 5) = some (.bool x42) ∧ ∃ x43 : Bool, rd H7 ((⟨H2.size, 0, none⟩ : Addr).add 6) = some (.bool x43) ∧ ∃ x44 : Int, rd H7 ((⟨H2.size, 0, none⟩ : Addr).add 7) = some (.int .i64 x44) ∧ ∃ x45 : Int, rd H7 ((⟨H2.size, 0, none⟩ : Addr).add 8) = some (.int .i64 x45) ∧ ∃ x46 : Int, rd H7 ((⟨H2.size, 0, none⟩ : Addr).add 9) = some (.int .i64 x46) ∧ ∃ x47 : Sl, rd H7 ((⟨H2.size, 0, none⟩ : Addr).add 10) = some (.slice x47.p x47.n x47.c) ∧ (
  CallsH Try.prog n_pciconf_New #[.agg #[.int .i64 x37, .int .i64 x38, .int .i64 x39, .int .i64 x40, .bool x41, .bool x42, .bool x43, .int .i64 x44, .int .i64 x45, .int .i64 x46, .slice x47.p x47.n x47.c]] H7 (fun v4 H9 =>
  ∃ x48 : Option Addr, ∃ x49 : Int, v4 = .tuple #[.pointer x48, .int .i64 x49] ∧ (
  iteB (x49 != (0 : Int)) (
  R (.bool false) H9) (
  iteB x48.isNone (
  R (.bool false) H9) (
  ∃ J_1 : Heap → Prop, (
  ∃ I_ : Int → Heap → Prop, ∃ M_ : Int → Heap → Nat, I_ (0 : Int) H9 ∧ (∀ i : Int, ∀ H10 : Heap, I_ i H10 → F_law18_PciconfProbes_r1 l x48 J_1 I_ M_ i H10)) ∧ (∀ H13 : Heap, J_1 H13 → F_law18_PciconfProbes_k6 R H2 x48 H13)))))))

def F_law18_PciconfProbes (R : Value → Heap → Prop) (f_0 : Int) (f_1 : Int) (f_2 : Int) (f_3 : Int) (f_4 : Bool) (f_5 : Bool) (f_6 : Bool) (f_7 : Int) (f_8 : Int) (f_9 : Int) (f_10 : Sl) (l : Sl) (H : Heap) : Prop :=
  letH (H.push (.cells #[.int .i64 f_0, .int .i64 f_1, .int .i64 f_2, .int .i64 f_3, .bool f_4, .bool f_5, .bool f_6, .int .i64 f_7, .int .i64 f_8, .int .i64 f_9, .slice f_10.p f_10.n f_10.c] t_api_Function (0, 0))) (fun H1 : Heap =>
  ∃ x : Int, rd H1 (⟨H.size, 0, none⟩ : Addr) = some (.int .i64 x) ∧ ∃ x1 : Int, rd H1 ((⟨H.size, 0, none⟩ : Addr).add 1) = some (.int .i64 x1) ∧ ∃ x2 : Int, rd H1 ((⟨H.size, 0, none⟩ : Addr).add 2) = some (.int .i64 x2) ∧ ∃ x3 : Int, rd H1 ((⟨H.size, 0, none⟩ : Addr).add 3) = some (.int .i64 x3) ∧ ∃ x4 : Bool, rd H1 ((⟨H.size, 0, none⟩ : Addr).add 4) = some (.bool x4) ∧ ∃ x5 : Bool, rd H1 ((⟨H.size, 0, none⟩ : Addr).add 5) = some (.bool x5) ∧ ∃ x6 : Bool, rd H1 ((⟨H.size, 0, none⟩ : Addr).add 6) = some (.bool x6) ∧ ∃ x7 : Int, rd H1 ((⟨H.size, 0, none⟩ : Addr).add 7) = some (.int .i64 x7) ∧ ∃ x8 : Int, rd H1 ((⟨H.size, 0, none⟩ : Addr).add 8) = some (.int .i64 x8) ∧ ∃ x9 : Int, rd H1 ((⟨H.size, 0, none⟩ : Addr).add 9) = some (.int .i64 x9) ∧ ∃ x10 : Sl, rd H1 ((⟨H.size, 0, none⟩ : Addr).add 10) = some (.slice x10.p x10.n x10.c) ∧ (
  CallsH Try.prog n_law18_some #[.agg #[.int .i64 x, .int .i64 x1, .int .i64 x2, .int .i64 x3, .bool x4, .bool x5, .bool x6, .int .i64 x7, .int .i64 x8, .int .i64 x9, .slice x10.p x10.n x10.c]] H1 (fun v H2 =>
  ∃ x11 : Int, ∃ x12 : Int, ∃ x13 : Int, ∃ x14 : Int, ∃ x15 : Bool, ∃ x16 : Bool, ∃ x17 : Bool, ∃ x18 : Int, ∃ x19 : Int, ∃ x20 : Int, ∃ x21 : Sl, v = .agg #[.int .i64 x11, .int .i64 x12, .int .i64 x13, .int .i64 x14, .bool x15, .bool x16, .bool x17, .int .i64 x18, .int .i64 x19, .int .i64 x20, .slice x21.p x21.n x21.c] ∧ (
  letH (H2.push (.cells #[.int .i64 (0 : Int), .int .i64 (0 : Int), .int .i64 (0 : Int), .int .i64 (0 : Int), .bool false, .bool false, .bool false, .int .i64 (0 : Int), .int .i64 (0 : Int), .int .i64 (0 : Int), .slice none 0 0] t_api_Function (0, 0))) (fun H3 : Heap =>
  okRow H3 (⟨H2.size, 0, none⟩ : Addr) 11 ∧ (
  letH (wrs H3 (⟨H2.size, 0, none⟩ : Addr) [.int .i64 x11, .int .i64 x12, .int .i64 x13, .int .i64 x14, .bool x15, .bool x16, .bool x17, .int .i64 x18, .int .i64 x19, .int .i64 x20, .slice x21.p x21.n x21.c]) (fun H4 : Heap =>
  ∃ J_ : Bool → Heap → Prop, (
  CallsH Try.prog n_law18_awake #[] H4 (fun v1 H5 =>
  ∃ x22 : Bool, v1 = .bool x22 ∧ (
  iteB (!x22) (
  J_ true H5) (
  ∃ x23 : Int, rd H5 (⟨H2.size, 0, none⟩ : Addr) = some (.int .i64 x23) ∧ ∃ x24 : Int, rd H5 ((⟨H2.size, 0, none⟩ : Addr).add 1) = some (.int .i64 x24) ∧ ∃ x25 : Int, rd H5 ((⟨H2.size, 0, none⟩ : Addr).add 2) = some (.int .i64 x25) ∧ ∃ x26 : Int, rd H5 ((⟨H2.size, 0, none⟩ : Addr).add 3) = some (.int .i64 x26) ∧ ∃ x27 : Bool, rd H5 ((⟨H2.size, 0, none⟩ : Addr).add 4) = some (.bool x27) ∧ ∃ x28 : Bool, rd H5 ((⟨H2.size, 0, none⟩ : Addr).add 5) = some (.bool x28) ∧ ∃ x29 : Bool, rd H5 ((⟨H2.size, 0, none⟩ : Addr).add 6) = some (.bool x29) ∧ ∃ x30 : Int, rd H5 ((⟨H2.size, 0, none⟩ : Addr).add 7) = some (.int .i64 x30) ∧ ∃ x31 : Int, rd H5 ((⟨H2.size, 0, none⟩ : Addr).add 8) = some (.int .i64 x31) ∧ ∃ x32 : Int, rd H5 ((⟨H2.size, 0, none⟩ : Addr).add 9) = some (.int .i64 x32) ∧ ∃ x33 : Sl, rd H5 ((⟨H2.size, 0, none⟩ : Addr).add 10) = some (.slice x33.p x33.n x33.c) ∧ (
  CallsH Try.prog n_ref18_ValidFunction #[.agg #[.int .i64 x23, .int .i64 x24, .int .i64 x25, .int .i64 x26, .bool x27, .bool x28, .bool x29, .int .i64 x30, .int .i64 x31, .int .i64 x32, .slice x33.p x33.n x33.c]] H5 (fun v2 H6 =>
  ∃ x34 : Bool, v2 = .bool x34 ∧ (
  J_ (!x34) H6))))))) ∧ (∀ x35 : Bool, ∀ H7 : Heap, J_ x35 H7 → F_law18_PciconfProbes_k7 R l H2 x35 H7))))))))

theorem F_law18_PciconfProbes_eq (R : Value → Heap → Prop) (f_0 : Int) (f_1 : Int) (f_2 : Int) (f_3 : Int) (f_4 : Bool) (f_5 : Bool) (f_6 : Bool) (f_7 : Int) (f_8 : Int) (f_9 : Int) (f_10 : Sl) (l : Sl) (H : Heap) : wpF Try.prog Try.f5 [(8, .int .i64 0), (12, .int .i64 0), (14, .int .i64 0), (15, .int .i64 0), (25, .bool false)] [(3, [25], [1, 5]), (12, [], [5, 6]), (31, [], [5, 13, 15, 16])] [(8, [8], [1, 5, 6]), (14, [12], [5, 6, 11]), (19, [14], [5, 6, 11, 13]), (26, [15], [5, 13])] [19] [.agg #[.int .i64 f_0, .int .i64 f_1, .int .i64 f_2, .int .i64 f_3, .bool f_4, .bool f_5, .bool f_6, .int .i64 f_7, .int .i64 f_8, .int .i64 f_9, .slice f_10.p f_10.n f_10.c], .slice l.p l.n l.c] H R = F_law18_PciconfProbes R f_0 f_1 f_2 f_3 f_4 f_5 f_6 f_7 f_8 f_9 f_10 l H := by kernel_rfl

theorem F_law18_PciconfProbes_ok {R : Value → Heap → Prop} (f_0 : Int) (f_1 : Int) (f_2 : Int) (f_3 : Int) (f_4 : Bool) (f_5 : Bool) (f_6 : Bool) (f_7 : Int) (f_8 : Int) (f_9 : Int) (f_10 : Sl) (l : Sl) {H : Heap} (h : F_law18_PciconfProbes R f_0 f_1 f_2 f_3 f_4 f_5 f_6 f_7 f_8 f_9 f_10 l H) : CallsH Try.prog n_law18_PciconfProbes #[.agg #[.int .i64 f_0, .int .i64 f_1, .int .i64 f_2, .int .i64 f_3, .bool f_4, .bool f_5, .bool f_6, .int .i64 f_7, .int .i64 f_8, .int .i64 f_9, .slice f_10.p f_10.n f_10.c], .slice l.p l.n l.c] H R :=
  wpF_ok Try.func5 (F_law18_PciconfProbes_eq R f_0 f_1 f_2 f_3 f_4 f_5 f_6 f_7 f_8 f_9 f_10 l H) h

/-! ### 6: platformfw/platformfwlaw18.PciconfAddresses -/

def F_law18_PciconfAddresses_r1 (R : Value → Heap → Prop) (H8 : Heap) (i1 : Int) (base3 : Int) (on : Bool) (l : Sl) (I_ : Int → Heap → Prop) (M_ : Int → Heap → Nat) (k : Int) (H21 : Heap) : Prop :=
  iteB (decide (k < (l.n : Int))) (
  0 ≤ k ∧ k < (l.n : Int) ∧ (unSome l.p (fun a1 =>
  ∃ x62 : Int, rd H21 (a1.add (k.toNat * 5)) = some (.int .i64 x62) ∧ (
  iteB (x62 == i1) (
  0 ≤ k ∧ k < (l.n : Int) ∧ (unSome l.p (fun a2 =>
  ∃ x63 : Int, rd H21 ((a2.add (k.toNat * 5)).add 2) = some (.int .u64 x63) ∧ ∃ x64 : Int, rd H21 (((a2.add (k.toNat * 5)).add 2).add 1) = some (.int .u64 x64) ∧ (
  ∃ x65 : Int, rd H21 ((⟨H8.size, 0, none⟩ : Addr).add 1) = some (.int .i64 x65) ∧ (
  0 ≤ (IntKind.u64.wrap x65) ∧ (
  iteB ((x63 == base3) && ((x64 == (IntKind.u64.wrap ((1 : Int) * 2 ^ (min (IntKind.u64.wrap x65).toNat IntKind.u64.bits)))) && true)) (
  0 ≤ k ∧ k < (l.n : Int) ∧ (unSome l.p (fun a3 =>
  ∃ x66 : Bool, rd H21 ((a3.add (k.toNat * 5)).add 4) = some (.bool x66) ∧ (
  R (.bool (x66 == on)) H21)))) (
  R (.bool false) H21))))))) (
  letV (IntKind.i64.wrap (k + (1 : Int))) (fun k1 : Int =>
  I_ k1 H21 ∧ M_ k1 H21 < M_ k H21)))))) (
  R (.bool false) H21)

def F_law18_PciconfAddresses_k2 (R : Value → Heap → Prop) (H8 : Heap) (i1 : Int) (x54 : Option Addr) (base3 : Int) (on : Bool) (H19 : Heap) : Prop :=
  CallsH Try.prog n_pciconf_Device_Windows #[.pointer x54] H19 (fun v10 H20 =>
  ∃ l : Sl, v10 = .slice l.p l.n l.c ∧ (
  ∃ I_ : Int → Heap → Prop, ∃ M_ : Int → Heap → Nat, I_ (0 : Int) H20 ∧ (∀ k : Int, ∀ H21 : Heap, I_ k H21 → F_law18_PciconfAddresses_r1 R H8 i1 base3 on l I_ M_ k H21)))

def F_law18_PciconfAddresses_k3 (R : Value → Heap → Prop) (command : Int) (H8 : Heap) (i1 : Int) (x54 : Option Addr) (base3 : Int) (H17 : Heap) : Prop :=
  CallsH Try.prog n_pciconf_Device_Write #[.pointer x54, .int .i64 (4 : Int), .int .i64 (2 : Int), .int .u64 (IntKind.u64.wrap command)] H17 (fun v9 H18 =>
  v9 = .tuple #[] ∧ (
  ∃ J_3 : Bool → Heap → Prop, (
  ∃ x61 : Int, rd H18 (⟨H8.size, 0, none⟩ : Addr) = some (.int .i64 x61) ∧ (
  iteB (x61 == (1 : Int)) (
  J_3 ((bitsAnd .u8 command (1 : Int)) != (0 : Int)) H18) (
  J_3 ((bitsAnd .u8 command (2 : Int)) != (0 : Int)) H18))) ∧ (∀ on : Bool, ∀ H19 : Heap, J_3 on H19 → F_law18_PciconfAddresses_k2 R H8 i1 x54 base3 on H19)))

def F_law18_PciconfAddresses_k4 (R : Value → Heap → Prop) (command : Int) (H8 : Heap) (i1 : Int) (x54 : Option Addr) (base3 : Int) (H14 : Heap) : Prop :=
  CallsH Try.prog n_pciconf_Device_Write #[.pointer x54, .int .i64 (IntKind.i64.wrap ((16 : Int) + (IntKind.i64.wrap ((4 : Int) * i1)))), .int .i64 (4 : Int), .int .u64 (bitsAnd .u64 base3 (4294967295 : Int))] H14 (fun v7 H15 =>
  v7 = .tuple #[] ∧ (
  ∃ J_2 : Heap → Prop, (
  ∃ x60 : Int, rd H15 (⟨H8.size, 0, none⟩ : Addr) = some (.int .i64 x60) ∧ (
  iteB (decide (x60 ≥ (3 : Int))) (
  0 ≤ (32 : Int) ∧ (
  CallsH Try.prog n_pciconf_Device_Write #[.pointer x54, .int .i64 (IntKind.i64.wrap ((20 : Int) + (IntKind.i64.wrap ((4 : Int) * i1)))), .int .i64 (4 : Int), .int .u64 (base3.fdiv (2 ^ (min (32 : Int).toNat IntKind.u64.bits)))] H15 (fun v8 H16 =>
  v8 = .tuple #[] ∧ (
  J_2 H16)))) (
  J_2 H15))) ∧ (∀ H17 : Heap, J_2 H17 → F_law18_PciconfAddresses_k3 R command H8 i1 x54 base3 H17)))

def F_law18_PciconfAddresses_k5 (R : Value → Heap → Prop) (i : Int) (base : Int) (command : Int) (H2 : Heap) (x35 : Bool) (H6 : Heap) : Prop :=
  iteB x35 (
  CallsH Try.prog n_law18_awake #[] H6 (fun v2 H7 =>
  ∃ x36 : Bool, v2 = .bool x36 ∧ (
  R (.bool x36) H7))) (
  ∃ x37 : Sl, rd H6 ((⟨H2.size, 0, none⟩ : Addr).add 10) = some (.slice x37.p x37.n x37.c) ∧ (
  CallsH Try.prog n_help_Mod #[.int .i64 i, .int .i64 (x37.n : Int)] H6 (fun v3 H8 =>
  ∃ i1 : Int, v3 = .int .i64 i1 ∧ (
  ∃ x38 : Sl, rd H8 ((⟨H2.size, 0, none⟩ : Addr).add 10) = some (.slice x38.p x38.n x38.c) ∧ (
  0 ≤ i1 ∧ i1 < (x38.n : Int) ∧ (unSome x38.p (fun a =>
  ∃ x39 : Int, rd H8 (a.add (i1.toNat * 2)) = some (.int .i64 x39) ∧ ∃ x40 : Int, rd H8 ((a.add (i1.toNat * 2)).add 1) = some (.int .i64 x40) ∧ (
  letH (H8.push (.cells #[.int .i64 (0 : Int), .int .i64 (0 : Int)] t_api_Bar (0, 0))) (fun H9 : Heap =>
  okRow H9 (⟨H8.size, 0, none⟩ : Addr) 2 ∧ (
  letH (wrs H9 (⟨H8.size, 0, none⟩ : Addr) [.int .i64 x39, .int .i64 x40]) (fun H10 : Heap =>
  ∃ x41 : Int, rd H10 (⟨H8.size, 0, none⟩ : Addr) = some (.int .i64 x41) ∧ (
  iteB (x41 == (0 : Int)) (
  CallsH Try.prog n_law18_awake #[] H10 (fun v4 H11 =>
  ∃ x42 : Bool, v4 = .bool x42 ∧ (
  R (.bool x42) H11))) (
  ∃ x43 : Int, rd H10 (⟨H2.size, 0, none⟩ : Addr) = some (.int .i64 x43) ∧ ∃ x44 : Int, rd H10 ((⟨H2.size, 0, none⟩ : Addr).add 1) = some (.int .i64 x44) ∧ ∃ x45 : Int, rd H10 ((⟨H2.size, 0, none⟩ : Addr).add 2) = some (.int .i64 x45) ∧ ∃ x46 : Int, rd H10 ((⟨H2.size, 0, none⟩ : Addr).add 3) = some (.int .i64 x46) ∧ ∃ x47 : Bool, rd H10 ((⟨H2.size, 0, none⟩ : Addr).add 4) = some (.bool x47) ∧ ∃ x48 : Bool, rd H10 ((⟨H2.size, 0, none⟩ : Addr).add 5) = some (.bool x48) ∧ ∃ x49 : Bool, rd H10 ((⟨H2.size, 0, none⟩ : Addr).add 6) = some (.bool x49) ∧ ∃ x50 : Int, rd H10 ((⟨H2.size, 0, none⟩ : Addr).add 7) = some (.int .i64 x50) ∧ ∃ x51 : Int, rd H10 ((⟨H2.size, 0, none⟩ : Addr).add 8) = some (.int .i64 x51) ∧ ∃ x52 : Int, rd H10 ((⟨H2.size, 0, none⟩ : Addr).add 9) = some (.int .i64 x52) ∧ ∃ x53 : Sl, rd H10 ((⟨H2.size, 0, none⟩ : Addr).add 10) = some (.slice x53.p x53.n x53.c) ∧ (
  CallsH Try.prog n_pciconf_New #[.agg #[.int .i64 x43, .int .i64 x44, .int .i64 x45, .int .i64 x46, .bool x47, .bool x48, .bool x49, .int .i64 x50, .int .i64 x51, .int .i64 x52, .slice x53.p x53.n x53.c]] H10 (fun v5 H12 =>
  ∃ x54 : Option Addr, ∃ x55 : Int, v5 = .tuple #[.pointer x54, .int .i64 x55] ∧ (
  CallsH Try.prog n_law18_awake #[] H12 (fun v6 H13 =>
  ∃ x56 : Bool, v6 = .bool x56 ∧ (
  iteB (!x56) (
  R (.bool false) H13) (
  iteB (x55 != (0 : Int)) (
  R (.bool false) H13) (
  iteB x54.isNone (
  R (.bool false) H13) (
  ∃ x57 : Int, rd H13 ((⟨H8.size, 0, none⟩ : Addr).add 1) = some (.int .i64 x57) ∧ (
  0 ≤ (IntKind.u64.wrap x57) ∧ (
  ∃ x58 : Int, rd H13 ((⟨H8.size, 0, none⟩ : Addr).add 1) = some (.int .i64 x58) ∧ (
  0 ≤ (IntKind.u64.wrap x58) ∧ (
  letV (IntKind.u64.wrap ((base.fdiv (2 ^ (min (IntKind.u64.wrap x57).toNat IntKind.u64.bits))) * 2 ^ (min (IntKind.u64.wrap x58).toNat IntKind.u64.bits))) (fun base1 : Int =>
  ∃ J_1 : Int → Heap → Prop, (
  ∃ x59 : Int, rd H13 (⟨H8.size, 0, none⟩ : Addr) = some (.int .i64 x59) ∧ (
  iteB (decide (x59 < (3 : Int))) (
  letV (bitsAnd .u64 base1 (4294967295 : Int)) (fun base2 : Int =>
  J_1 base2 H13)) (
  J_1 base1 H13))) ∧ (∀ base3 : Int, ∀ H14 : Heap, J_1 base3 H14 → F_law18_PciconfAddresses_k4 R command H8 i1 x54 base3 H14)))))))))))))))))))))))))))

def F_law18_PciconfAddresses (R : Value → Heap → Prop) (f_0 : Int) (f_1 : Int) (f_2 : Int) (f_3 : Int) (f_4 : Bool) (f_5 : Bool) (f_6 : Bool) (f_7 : Int) (f_8 : Int) (f_9 : Int) (f_10 : Sl) (i : Int) (base : Int) (command : Int) (H : Heap) : Prop :=
  letH (H.push (.cells #[.int .i64 f_0, .int .i64 f_1, .int .i64 f_2, .int .i64 f_3, .bool f_4, .bool f_5, .bool f_6, .int .i64 f_7, .int .i64 f_8, .int .i64 f_9, .slice f_10.p f_10.n f_10.c] t_api_Function (0, 0))) (fun H1 : Heap =>
  ∃ x : Int, rd H1 (⟨H.size, 0, none⟩ : Addr) = some (.int .i64 x) ∧ ∃ x1 : Int, rd H1 ((⟨H.size, 0, none⟩ : Addr).add 1) = some (.int .i64 x1) ∧ ∃ x2 : Int, rd H1 ((⟨H.size, 0, none⟩ : Addr).add 2) = some (.int .i64 x2) ∧ ∃ x3 : Int, rd H1 ((⟨H.size, 0, none⟩ : Addr).add 3) = some (.int .i64 x3) ∧ ∃ x4 : Bool, rd H1 ((⟨H.size, 0, none⟩ : Addr).add 4) = some (.bool x4) ∧ ∃ x5 : Bool, rd H1 ((⟨H.size, 0, none⟩ : Addr).add 5) = some (.bool x5) ∧ ∃ x6 : Bool, rd H1 ((⟨H.size, 0, none⟩ : Addr).add 6) = some (.bool x6) ∧ ∃ x7 : Int, rd H1 ((⟨H.size, 0, none⟩ : Addr).add 7) = some (.int .i64 x7) ∧ ∃ x8 : Int, rd H1 ((⟨H.size, 0, none⟩ : Addr).add 8) = some (.int .i64 x8) ∧ ∃ x9 : Int, rd H1 ((⟨H.size, 0, none⟩ : Addr).add 9) = some (.int .i64 x9) ∧ ∃ x10 : Sl, rd H1 ((⟨H.size, 0, none⟩ : Addr).add 10) = some (.slice x10.p x10.n x10.c) ∧ (
  CallsH Try.prog n_law18_some #[.agg #[.int .i64 x, .int .i64 x1, .int .i64 x2, .int .i64 x3, .bool x4, .bool x5, .bool x6, .int .i64 x7, .int .i64 x8, .int .i64 x9, .slice x10.p x10.n x10.c]] H1 (fun v H2 =>
  ∃ x11 : Int, ∃ x12 : Int, ∃ x13 : Int, ∃ x14 : Int, ∃ x15 : Bool, ∃ x16 : Bool, ∃ x17 : Bool, ∃ x18 : Int, ∃ x19 : Int, ∃ x20 : Int, ∃ x21 : Sl, v = .agg #[.int .i64 x11, .int .i64 x12, .int .i64 x13, .int .i64 x14, .bool x15, .bool x16, .bool x17, .int .i64 x18, .int .i64 x19, .int .i64 x20, .slice x21.p x21.n x21.c] ∧ (
  letH (H2.push (.cells #[.int .i64 (0 : Int), .int .i64 (0 : Int), .int .i64 (0 : Int), .int .i64 (0 : Int), .bool false, .bool false, .bool false, .int .i64 (0 : Int), .int .i64 (0 : Int), .int .i64 (0 : Int), .slice none 0 0] t_api_Function (0, 0))) (fun H3 : Heap =>
  okRow H3 (⟨H2.size, 0, none⟩ : Addr) 11 ∧ (
  letH (wrs H3 (⟨H2.size, 0, none⟩ : Addr) [.int .i64 x11, .int .i64 x12, .int .i64 x13, .int .i64 x14, .bool x15, .bool x16, .bool x17, .int .i64 x18, .int .i64 x19, .int .i64 x20, .slice x21.p x21.n x21.c]) (fun H4 : Heap =>
  ∃ J_ : Bool → Heap → Prop, (
  ∃ x22 : Int, rd H4 (⟨H2.size, 0, none⟩ : Addr) = some (.int .i64 x22) ∧ ∃ x23 : Int, rd H4 ((⟨H2.size, 0, none⟩ : Addr).add 1) = some (.int .i64 x23) ∧ ∃ x24 : Int, rd H4 ((⟨H2.size, 0, none⟩ : Addr).add 2) = some (.int .i64 x24) ∧ ∃ x25 : Int, rd H4 ((⟨H2.size, 0, none⟩ : Addr).add 3) = some (.int .i64 x25) ∧ ∃ x26 : Bool, rd H4 ((⟨H2.size, 0, none⟩ : Addr).add 4) = some (.bool x26) ∧ ∃ x27 : Bool, rd H4 ((⟨H2.size, 0, none⟩ : Addr).add 5) = some (.bool x27) ∧ ∃ x28 : Bool, rd H4 ((⟨H2.size, 0, none⟩ : Addr).add 6) = some (.bool x28) ∧ ∃ x29 : Int, rd H4 ((⟨H2.size, 0, none⟩ : Addr).add 7) = some (.int .i64 x29) ∧ ∃ x30 : Int, rd H4 ((⟨H2.size, 0, none⟩ : Addr).add 8) = some (.int .i64 x30) ∧ ∃ x31 : Int, rd H4 ((⟨H2.size, 0, none⟩ : Addr).add 9) = some (.int .i64 x31) ∧ ∃ x32 : Sl, rd H4 ((⟨H2.size, 0, none⟩ : Addr).add 10) = some (.slice x32.p x32.n x32.c) ∧ (
  CallsH Try.prog n_ref18_ValidFunction #[.agg #[.int .i64 x22, .int .i64 x23, .int .i64 x24, .int .i64 x25, .bool x26, .bool x27, .bool x28, .int .i64 x29, .int .i64 x30, .int .i64 x31, .slice x32.p x32.n x32.c]] H4 (fun v1 H5 =>
  ∃ x33 : Bool, v1 = .bool x33 ∧ (
  iteB (!x33) (
  J_ true H5) (
  ∃ x34 : Sl, rd H5 ((⟨H2.size, 0, none⟩ : Addr).add 10) = some (.slice x34.p x34.n x34.c) ∧ (
  J_ ((x34.n : Int) == (0 : Int)) H5)))))) ∧ (∀ x35 : Bool, ∀ H6 : Heap, J_ x35 H6 → F_law18_PciconfAddresses_k5 R i base command H2 x35 H6))))))))

theorem F_law18_PciconfAddresses_eq (R : Value → Heap → Prop) (f_0 : Int) (f_1 : Int) (f_2 : Int) (f_3 : Int) (f_4 : Bool) (f_5 : Bool) (f_6 : Bool) (f_7 : Int) (f_8 : Int) (f_9 : Int) (f_10 : Sl) (i : Int) (base : Int) (command : Int) (H : Heap) : wpF Try.prog Try.f6 [(2, .int .u64 0), (13, .bool false), (15, .int .i64 0), (26, .bool false)] [(3, [26], [1, 2, 3, 9]), (14, [2], [1, 3, 10, 11]), (17, [], [1, 2, 3, 10, 11]), (21, [13], [1, 2, 10, 11])] [(23, [15], [1, 2, 10, 13, 14])] [19] [.agg #[.int .i64 f_0, .int .i64 f_1, .int .i64 f_2, .int .i64 f_3, .bool f_4, .bool f_5, .bool f_6, .int .i64 f_7, .int .i64 f_8, .int .i64 f_9, .slice f_10.p f_10.n f_10.c], .int .i64 i, .int .u64 base, .int .u8 command] H R = F_law18_PciconfAddresses R f_0 f_1 f_2 f_3 f_4 f_5 f_6 f_7 f_8 f_9 f_10 i base command H := by kernel_rfl

theorem F_law18_PciconfAddresses_ok {R : Value → Heap → Prop} (f_0 : Int) (f_1 : Int) (f_2 : Int) (f_3 : Int) (f_4 : Bool) (f_5 : Bool) (f_6 : Bool) (f_7 : Int) (f_8 : Int) (f_9 : Int) (f_10 : Sl) (i : Int) (base : Int) (command : Int) {H : Heap} (h : F_law18_PciconfAddresses R f_0 f_1 f_2 f_3 f_4 f_5 f_6 f_7 f_8 f_9 f_10 i base command H) : CallsH Try.prog n_law18_PciconfAddresses #[.agg #[.int .i64 f_0, .int .i64 f_1, .int .i64 f_2, .int .i64 f_3, .bool f_4, .bool f_5, .bool f_6, .int .i64 f_7, .int .i64 f_8, .int .i64 f_9, .slice f_10.p f_10.n f_10.c], .int .i64 i, .int .u64 base, .int .u8 command] H R :=
  wpF_ok Try.func6 (F_law18_PciconfAddresses_eq R f_0 f_1 f_2 f_3 f_4 f_5 f_6 f_7 f_8 f_9 f_10 i base command H) h

/-! ### 7: platformfw/pciconf.New -/

def F_pciconf_New_r1 (R : Value → Heap → Prop) (H : Heap) (H4 : Heap) (x22 : Sl) (I_ : Int → Heap → Prop) (M_ : Int → Heap → Nat) (x23 : Int) (H12 : Heap) : Prop :=
  iteB (decide (x23 < (x22.n : Int))) (
  0 ≤ x23 ∧ x23 < (x22.n : Int) ∧ (unSome x22.p (fun a =>
  ∃ x24 : Int, rd H12 (a.add (x23.toNat * 2)) = some (.int .i64 x24) ∧ ∃ x25 : Int, rd H12 ((a.add (x23.toNat * 2)).add 1) = some (.int .i64 x25) ∧ (
  letH (H12.push (.cells #[.int .i64 (0 : Int), .int .i64 (0 : Int)] t_api_Bar (0, 0))) (fun H13 : Heap =>
  okRow H13 (⟨H12.size, 0, none⟩ : Addr) 2 ∧ (
  letH (wrs H13 (⟨H12.size, 0, none⟩ : Addr) [.int .i64 x24, .int .i64 x25]) (fun H14 : Heap =>
  ∃ x26 : Int, rd H14 (⟨H12.size, 0, none⟩ : Addr) = some (.int .i64 x26) ∧ ∃ x27 : Int, rd H14 ((⟨H12.size, 0, none⟩ : Addr).add 1) = some (.int .i64 x27) ∧ (
  CallsH Try.prog n_pciconf_Device_defineBar #[.pointer (some (⟨H4.size, 0, none⟩ : Addr)), .int .i64 (IntKind.i64.wrap ((16 : Int) + (IntKind.i64.wrap ((4 : Int) * x23)))), .agg #[.int .i64 x26, .int .i64 x27]] H14 (fun v8 H15 =>
  v8 = .tuple #[] ∧ (
  I_ (IntKind.i64.wrap (x23 + (1 : Int))) H15 ∧ M_ (IntKind.i64.wrap (x23 + (1 : Int))) H15 < M_ x23 H12)))))))))) (
  ∃ x28 : Bool, rd H12 ((⟨H.size, 0, none⟩ : Addr).add 4) = some (.bool x28) ∧ (
  iteB x28 (
  CallsH Try.prog n_pciconf_Device_defineBridge #[.pointer (some (⟨H4.size, 0, none⟩ : Addr))] H12 (fun v9 H16 =>
  v9 = .tuple #[] ∧ (
  R (.tuple #[.pointer (some (⟨H4.size, 0, none⟩ : Addr)), .int .i64 (0 : Int)]) H16))) (
  R (.tuple #[.pointer (some (⟨H4.size, 0, none⟩ : Addr)), .int .i64 (0 : Int)]) H12)))

def F_pciconf_New (R : Value → Heap → Prop) (f_0 : Int) (f_1 : Int) (f_2 : Int) (f_3 : Int) (f_4 : Bool) (f_5 : Bool) (f_6 : Bool) (f_7 : Int) (f_8 : Int) (f_9 : Int) (f_10 : Sl) (H : Heap) : Prop :=
  letH (H.push (.cells #[.int .i64 f_0, .int .i64 f_1, .int .i64 f_2, .int .i64 f_3, .bool f_4, .bool f_5, .bool f_6, .int .i64 f_7, .int .i64 f_8, .int .i64 f_9, .slice f_10.p f_10.n f_10.c] t_api_Function (0, 0))) (fun H1 : Heap =>
  ∃ x : Int, rd H1 (⟨H.size, 0, none⟩ : Addr) = some (.int .i64 x) ∧ ∃ x1 : Int, rd H1 ((⟨H.size, 0, none⟩ : Addr).add 1) = some (.int .i64 x1) ∧ ∃ x2 : Int, rd H1 ((⟨H.size, 0, none⟩ : Addr).add 2) = some (.int .i64 x2) ∧ ∃ x3 : Int, rd H1 ((⟨H.size, 0, none⟩ : Addr).add 3) = some (.int .i64 x3) ∧ ∃ x4 : Bool, rd H1 ((⟨H.size, 0, none⟩ : Addr).add 4) = some (.bool x4) ∧ ∃ x5 : Bool, rd H1 ((⟨H.size, 0, none⟩ : Addr).add 5) = some (.bool x5) ∧ ∃ x6 : Bool, rd H1 ((⟨H.size, 0, none⟩ : Addr).add 6) = some (.bool x6) ∧ ∃ x7 : Int, rd H1 ((⟨H.size, 0, none⟩ : Addr).add 7) = some (.int .i64 x7) ∧ ∃ x8 : Int, rd H1 ((⟨H.size, 0, none⟩ : Addr).add 8) = some (.int .i64 x8) ∧ ∃ x9 : Int, rd H1 ((⟨H.size, 0, none⟩ : Addr).add 9) = some (.int .i64 x9) ∧ ∃ x10 : Sl, rd H1 ((⟨H.size, 0, none⟩ : Addr).add 10) = some (.slice x10.p x10.n x10.c) ∧ (
  CallsH Try.prog n_pciconf_Valid #[.agg #[.int .i64 x, .int .i64 x1, .int .i64 x2, .int .i64 x3, .bool x4, .bool x5, .bool x6, .int .i64 x7, .int .i64 x8, .int .i64 x9, .slice x10.p x10.n x10.c]] H1 (fun v H2 =>
  ∃ x11 : Bool, v = .bool x11 ∧ (
  iteB (!x11) (
  R (.tuple #[.pointer none, .int .i64 (1 : Int)]) H2) (
  ∃ x12 : Bool, rd H2 ((⟨H.size, 0, none⟩ : Addr).add 4) = some (.bool x12) ∧ (
  ∃ x13 : Bool, rd H2 ((⟨H.size, 0, none⟩ : Addr).add 4) = some (.bool x13) ∧ (
  ∃ x14 : Bool, rd H2 ((⟨H.size, 0, none⟩ : Addr).add 5) = some (.bool x14) ∧ (
  CallsH Try.prog n_pciconf_registers #[.bool x12] H2 (fun v1 H3 =>
  ∃ x15 : Int, v1 = .int .i64 x15 ∧ (
  Keeps H2 H3 [(((⟨H.size, 0, none⟩ : Addr).add 4), 1), (((⟨H.size, 0, none⟩ : Addr).add 5), 1)] ∧ (
  0 ≤ x15 ∧ x15 ≤ x15 ∧ x15 * ((16 : Nat) : Int) ≤ 281474976710656 ∧ (
  letH (H3.push (.cells (zeroRow (.agg #[.int .i64 (0 : Int), .int .i64 (0 : Int)]) x15.toNat) t_api_Bar (0, 0))) (fun H4 : Heap =>
  Keeps H3 H4 [(((⟨H.size, 0, none⟩ : Addr).add 4), 1), (((⟨H.size, 0, none⟩ : Addr).add 5), 1)] ∧ (
  letH (H4.push (.cells #[.int .u8 (0 : Int), .int .u8 (0 : Int), .int .u8 (0 : Int), .int .u8 (0 : Int), .int .u8 (0 : Int), .int .u8 (0 : Int), .int .u8 (0 : Int), .int .u8 (0 : Int), .int .u8 (0 : Int), .int .u8 (0 : Int), .int .u8 (0 : Int), .int .u8 (0 : Int), .int .u8 (0 : Int), .int .u8 (0 : Int), .int .u8 (0 : Int), .int .u8 (0 : Int), .int .u8 (0 : Int), .int .u8 (0 : Int), .int .u8 (0 : Int), .int .u8 (0 : Int), .int .u8 (0 : Int), .int .u8 (0 : Int), .int .u8 (0 : Int), .int .u8 (0 : Int), .int .u8 (0 : Int), .int .u8 (0 : Int), .int .u8 (0 : Int), .int .u8 (0 : Int), .int .u8 (0 : Int), .int .u8 (0 : Int), .int .u8 (0 : Int), .int .u8 (0 : Int), .int .u8 (0 : Int), .int .u8 (0 : Int), .int .u8 (0 : Int), .int .u8 (0 : Int), .int .u8 (0 : Int), .int .u8 (0 : Int), .int .u8 (0 : Int), .int .u8 (0 : Int), .int .u8 (0 : Int), .int .u8 (0 : Int), .int .u8 (0 : Int), .int .u8 (0 : Int), .int .u8 (0 : Int), .int .u8 (0 : Int), .int .u8 (0 : Int), .int .u8 (0 : Int), .int .u8 (0 : Int), .int .u8 (0 : Int), .int .u8 (0 : Int), .int .u8 (0 : Int), .int .u8 (0 : Int), .int .u8 (0 : Int), .int .u8 (0 : Int), .int .u8 (0 : Int), .int .u8 (0 : Int), .int .u8 (0 : Int), .int .u8 (0 : Int), .int .u8 (0 : Int), .int .u8 (0 : Int), .int .u8 (0 : Int), .int .u8 (0 : Int), .int .u8 (0 : Int), .int .u8 (0 : Int), .int .u8 (0 : Int), .int .u8 (0 : Int), .int .u8 (0 : Int), .int .u8 (0 : Int), .int .u8 (0 : Int), .int .u8 (0 : Int), .int .u8 (0 : Int), .int .u8 (0 : Int), .int .u8 (0 : Int), .int .u8 (0 : Int), .int .u8 (0 : Int), .int .u8 (0 : Int), .int .u8 (0 : Int), .int .u8 (0 : Int), .int .u8 (0 : Int), .int .u8 (0 : Int), .int .u8 (0 : Int), .int .u8 (0 : Int), .int .u8 (0 : Int), .int .u8 (0 : Int), .int .u8 (0 : Int), .int .u8 (0 : Int), .int .u8 (0 : Int), .int .u8 (0 : Int), .int .u8 (0 : Int), .int .u8 (0 : Int), .int .u8 (0 : Int), .int .u8 (0 : Int), .int .u8 (0 : Int), .int .u8 (0 : Int), .int .u8 (0 : Int), .int .u8 (0 : Int), .int .u8 (0 : Int), .int .u8 (0 : Int), .int .u8 (0 : Int), .int .u8 (0 : Int), .int .u8 (0 : Int), .int .u8 (0 : Int), .int .u8 (0 : Int), .int .u8 (0 : Int), .int .u8 (0 : Int), .int .u8 (0 : Int), .int .u8 (0 : Int), .int .u8 (0 : Int), .int .u8 (0 : Int), .int .u8 (0 : Int), .int .u8 (0 : Int), .int .u8 (0 : Int), .int .u8 (0 : Int), .int .u8 (0 : Int), .int .u8 (0 : Int), .int .u8 (0 : Int), .int .u8 (0 : Int), .int .u8 (0 : Int), .int .u8 (0 : Int), .int .u8 (0 : Int), .int .u8 (0 : Int), .int .u8 (0 : Int), .int .u8 (0 : Int), .int .u8 (0 : Int), .int .u8 (0 : Int), .int .u8 (0 : Int), .int .u8 (0 : Int), .int .u8 (0 : Int), .int .u8 (0 : Int), .int .u8 (0 : Int), .int .u8 (0 : Int), .int .u8 (0 : Int), .int .u8 (0 : Int), .int .u8 (0 : Int), .int .u8 (0 : Int), .int .u8 (0 : Int), .int .u8 (0 : Int), .int .u8 (0 : Int), .int .u8 (0 : Int), .int .u8 (0 : Int), .int .u8 (0 : Int), .int .u8 (0 : Int), .int .u8 (0 : Int), .int .u8 (0 : Int), .int .u8 (0 : Int), .int .u8 (0 : Int), .int .u8 (0 : Int), .int .u8 (0 : Int), .int .u8 (0 : Int), .int .u8 (0 : Int), .int .u8 (0 : Int), .int .u8 (0 : Int), .int .u8 (0 : Int), .int .u8 (0 : Int), .int .u8 (0 : Int), .int .u8 (0 : Int), .int .u8 (0 : Int), .int .u8 (0 : Int), .int .u8 (0 : Int), .int .u8 (0 : Int), .int .u8 (0 : Int), .int .u8 (0 : Int), .int .u8 (0 : Int), .int .u8 (0 : Int), .int .u8 (0 : Int), .int .u8 (0 : Int), .int .u8 (0 : Int), .int .u8 (0 : Int), .int .u8 (0 : Int), .int .u8 (0 : Int), .int .u8 (0 : Int), .int .u8 (0 : Int), .int .u8 (0 : Int), .int .u8 (0 : Int), .int .u8 (0 : Int), .int .u8 (0 : Int), .int .u8 (0 : Int), .int .u8 (0 : Int), .int .u8 (0 : Int), .int .u8 (0 : Int), .int .u8 (0 : Int), .int .u8 (0 : Int), .int .u8 (0 : Int), .int .u8 (0 : Int), .int .u8 (0 : Int), .int .u8 (0 : Int), .int .u8 (0 : Int), .int .u8 (0 : Int), .int .u8 (0 : Int), .int .u8 (0 : Int), .int .u8 (0 : Int), .int .u8 (0 : Int), .int .u8 (0 : Int), .int .u8 (0 : Int), .int .u8 (0 : Int), .int .u8 (0 : Int), .int .u8 (0 : Int), .int .u8 (0 : Int), .int .u8 (0 : Int), .int .u8 (0 : Int), .int .u8 (0 : Int), .int .u8 (0 : Int), .int .u8 (0 : Int), .int .u8 (0 : Int), .int .u8 (0 : Int), .int .u8 (0 : Int), .int .u8 (0 : Int), .int .u8 (0 : Int), .int .u8 (0 : Int), .int .u8 (0 : Int), .int .u8 (0 : Int), .int .u8 (0 : Int), .int .u8 (0 : Int), .int .u8 (0 : Int), .int .u8 (0 : Int), .int .u8 (0 : Int), .int .u8 (0 : Int), .int .u8 (0 : Int), .int .u8 (0 : Int), .int .u8 (0 : Int), .int .u8 (0 : Int), .int .u8 (0 : Int), .int .u8 (0 : Int), .int .u8 (0 : Int), .int .u8 (0 : Int), .int .u8 (0 : Int), .int .u8 (0 : Int), .int .u8 (0 : Int), .int .u8 (0 : Int), .int .u8 (0 : Int), .int .u8 (0 : Int), .int .u8 (0 : Int), .int .u8 (0 : Int), .int .u8 (0 : Int), .int .u8 (0 : Int), .int .u8 (0 : Int), .int .u8 (0 : Int), .int .u8 (0 : Int), .int .u8 (0 : Int), .int .u8 (0 : Int), .int .u8 (0 : Int), .int .u8 (0 : Int), .int .u8 (0 : Int), .int .u8 (0 : Int), .int .u8 (0 : Int), .int .u8 (0 : Int), .int .u8 (0 : Int), .int .u8 (0 : Int), .int .u8 (0 : Int), .int .u8 (0 : Int), .int .u8 (0 : Int), .int .u8 (0 : Int), .int .u8 (0 : Int), .int .u8 (0 : Int), .int .u8 (0 : Int), .int .u8 (0 : Int), .int .u8 (0 : Int), .int .u8 (0 : Int), .int .u8 (0 : Int), .int .u8 (0 : Int), .int .u8 (0 : Int), .int .u8 (0 : Int), .int .u8 (0 : Int), .int .u8 (0 : Int), .int .u8 (0 : Int), .int .u8 (0 : Int), .int .u8 (0 : Int), .int .u8 (0 : Int), .int .u8 (0 : Int), .int .u8 (0 : Int), .int .u8 (0 : Int), .int .u8 (0 : Int), .int .u8 (0 : Int), .int .u8 (0 : Int), .int .u8 (0 : Int), .int .u8 (0 : Int), .int .u8 (0 : Int), .int .u8 (0 : Int), .int .u8 (0 : Int), .int .u8 (0 : Int), .int .u8 (0 : Int), .int .u8 (0 : Int), .int .u8 (0 : Int), .int .u8 (0 : Int), .int .u8 (0 : Int), .int .u8 (0 : Int), .int .u8 (0 : Int), .int .u8 (0 : Int), .int .u8 (0 : Int), .int .u8 (0 : Int), .int .u8 (0 : Int), .int .u8 (0 : Int), .int .u8 (0 : Int), .int .u8 (0 : Int), .int .u8 (0 : Int), .int .u8 (0 : Int), .int .u8 (0 : Int), .int .u8 (0 : Int), .int .u8 (0 : Int), .int .u8 (0 : Int), .int .u8 (0 : Int), .int .u8 (0 : Int), .int .u8 (0 : Int), .int .u8 (0 : Int), .int .u8 (0 : Int), .int .u8 (0 : Int), .int .u8 (0 : Int), .int .u8 (0 : Int), .int .u8 (0 : Int), .int .u8 (0 : Int), .int .u8 (0 : Int), .int .u8 (0 : Int), .int .u8 (0 : Int), .int .u8 (0 : Int), .int .u8 (0 : Int), .int .u8 (0 : Int), .int .u8 (0 : Int), .int .u8 (0 : Int), .int .u8 (0 : Int), .int .u8 (0 : Int), .int .u8 (0 : Int), .int .u8 (0 : Int), .int .u8 (0 : Int), .int .u8 (0 : Int), .int .u8 (0 : Int), .int .u8 (0 : Int), .int .u8 (0 : Int), .int .u8 (0 : Int), .int .u8 (0 : Int), .int .u8 (0 : Int), .int .u8 (0 : Int), .int .u8 (0 : Int), .int .u8 (0 : Int), .int .u8 (0 : Int), .int .u8 (0 : Int), .int .u8 (0 : Int), .int .u8 (0 : Int), .int .u8 (0 : Int), .int .u8 (0 : Int), .int .u8 (0 : Int), .int .u8 (0 : Int), .int .u8 (0 : Int), .int .u8 (0 : Int), .int .u8 (0 : Int), .int .u8 (0 : Int), .int .u8 (0 : Int), .int .u8 (0 : Int), .int .u8 (0 : Int), .int .u8 (0 : Int), .int .u8 (0 : Int), .int .u8 (0 : Int), .int .u8 (0 : Int), .int .u8 (0 : Int), .int .u8 (0 : Int), .int .u8 (0 : Int), .int .u8 (0 : Int), .int .u8 (0 : Int), .int .u8 (0 : Int), .int .u8 (0 : Int), .int .u8 (0 : Int), .int .u8 (0 : Int), .int .u8 (0 : Int), .int .u8 (0 : Int), .int .u8 (0 : Int), .int .u8 (0 : Int), .int .u8 (0 : Int), .int .u8 (0 : Int), .int .u8 (0 : Int), .int .u8 (0 : Int), .int .u8 (0 : Int), .int .u8 (0 : Int), .int .u8 (0 : Int), .int .u8 (0 : Int), .int .u8 (0 : Int), .int .u8 (0 : Int), .int .u8 (0 : Int), .int .u8 (0 : Int), .int .u8 (0 : Int), .int .u8 (0 : Int), .int .u8 (0 : Int), .int .u8 (0 : Int), .int .u8 (0 : Int), .int .u8 (0 : Int), .int .u8 (0 : Int), .int .u8 (0 : Int), .int .u8 (0 : Int), .int .u8 (0 : Int), .int .u8 (0 : Int), .int .u8 (0 : Int), .int .u8 (0 : Int), .int .u8 (0 : Int), .int .u8 (0 : Int), .int .u8 (0 : Int), .int .u8 (0 : Int), .int .u8 (0 : Int), .int .u8 (0 : Int), .int .u8 (0 : Int), .int .u8 (0 : Int), .int .u8 (0 : Int), .int .u8 (0 : Int), .int .u8 (0 : Int), .int .u8 (0 : Int), .int .u8 (0 : Int), .int .u8 (0 : Int), .int .u8 (0 : Int), .int .u8 (0 : Int), .int .u8 (0 : Int), .int .u8 (0 : Int), .int .u8 (0 : Int), .int .u8 (0 : Int), .int .u8 (0 : Int), .int .u8 (0 : Int), .int .u8 (0 : Int), .int .u8 (0 : Int), .int .u8 (0 : Int), .int .u8 (0 : Int), .int .u8 (0 : Int), .int .u8 (0 : Int), .int .u8 (0 : Int), .int .u8 (0 : Int), .int .u8 (0 : Int), .int .u8 (0 : Int), .int .u8 (0 : Int), .int .u8 (0 : Int), .int .u8 (0 : Int), .int .u8 (0 : Int), .int .u8 (0 : Int), .int .u8 (0 : Int), .int .u8 (0 : Int), .int .u8 (0 : Int), .int .u8 (0 : Int), .int .u8 (0 : Int), .int .u8 (0 : Int), .int .u8 (0 : Int), .int .u8 (0 : Int), .int .u8 (0 : Int), .int .u8 (0 : Int), .int .u8 (0 : Int), .int .u8 (0 : Int), .int .u8 (0 : Int), .int .u8 (0 : Int), .int .u8 (0 : Int), .int .u8 (0 : Int), .int .u8 (0 : Int), .int .u8 (0 : Int), .int .u8 (0 : Int), .int .u8 (0 : Int), .int .u8 (0 : Int), .int .u8 (0 : Int), .int .u8 (0 : Int), .int .u8 (0 : Int), .int .u8 (0 : Int), .int .u8 (0 : Int), .int .u8 (0 : Int), .int .u8 (0 : Int), .int .u8 (0 : Int), .int .u8 (0 : Int), .int .u8 (0 : Int), .int .u8 (0 : Int), .int .u8 (0 : Int), .int .u8 (0 : Int), .int .u8 (0 : Int), .int .u8 (0 : Int), .int .u8 (0 : Int), .int .u8 (0 : Int), .int .u8 (0 : Int), .int .u8 (0 : Int), .int .u8 (0 : Int), .int .u8 (0 : Int), .int .u8 (0 : Int), .int .u8 (0 : Int), .int .u8 (0 : Int), .int .u8 (0 : Int), .int .u8 (0 : Int), .int .u8 (0 : Int), .int .u8 (0 : Int), .int .u8 (0 : Int), .int .u8 (0 : Int), .int .u8 (0 : Int), .int .u8 (0 : Int), .int .u8 (0 : Int), .int .u8 (0 : Int), .int .u8 (0 : Int), .int .u8 (0 : Int), .int .u8 (0 : Int), .int .u8 (0 : Int), .int .u8 (0 : Int), .int .u8 (0 : Int), .int .u8 (0 : Int), .int .u8 (0 : Int), .int .u8 (0 : Int), .int .u8 (0 : Int), .int .u8 (0 : Int), .int .u8 (0 : Int), .int .u8 (0 : Int), .int .u8 (0 : Int), .int .u8 (0 : Int), .int .u8 (0 : Int), .int .u8 (0 : Int), .int .u8 (0 : Int), .int .u8 (0 : Int), .int .u8 (0 : Int), .int .u8 (0 : Int), .int .u8 (0 : Int), .int .u8 (0 : Int), .int .u8 (0 : Int), .int .u8 (0 : Int), .int .u8 (0 : Int), .int .u8 (0 : Int), .int .u8 (0 : Int), .int .u8 (0 : Int), .slice (some (⟨H3.size, 0, none⟩ : Addr)) x15.toNat x15.toNat, .bool x13, .bool x14] t_pciconf_Device (0, 0))) (fun H5 : Heap =>
  ∃ x16 : Sl, rd H5 ((⟨H4.size, 0, none⟩ : Addr).add 512) = some (.slice x16.p x16.n x16.c) ∧ (
  ∃ x17 : Sl, rd H5 ((⟨H.size, 0, none⟩ : Addr).add 10) = some (.slice x17.p x17.n x17.c) ∧ (
  runH Try.prog (Builtin.copy_ #[t_sl_api_Bar, t_sl_api_Bar] t_int #[.slice x16.p x16.n x16.c, .slice x17.p x17.n x17.c]) H5 (fun v2 H6 =>
  ∃ x18 : Int, v2 = .int .i64 x18 ∧ (
  ∃ x19 : Int, rd H6 ((⟨H.size, 0, none⟩ : Addr).add 2) = some (.int .i64 x19) ∧ (
  CallsH Try.prog n_pciconf_Device_define #[.pointer (some (⟨H4.size, 0, none⟩ : Addr)), .int .i64 (0 : Int), .int .i64 (2 : Int), .int .u64 (IntKind.u64.wrap x19), .int .u64 (0 : Int)] H6 (fun v3 H7 =>
  v3 = .tuple #[] ∧ (
  ∃ x20 : Int, rd H7 ((⟨H.size, 0, none⟩ : Addr).add 3) = some (.int .i64 x20) ∧ (
  CallsH Try.prog n_pciconf_Device_define #[.pointer (some (⟨H4.size, 0, none⟩ : Addr)), .int .i64 (2 : Int), .int .i64 (2 : Int), .int .u64 (IntKind.u64.wrap x20), .int .u64 (0 : Int)] H7 (fun v4 H8 =>
  v4 = .tuple #[] ∧ (
  CallsH Try.prog n_pciconf_Device_define #[.pointer (some (⟨H4.size, 0, none⟩ : Addr)), .int .i64 (4 : Int), .int .i64 (2 : Int), .int .u64 (0 : Int), .int .u64 (7 : Int)] H8 (fun v5 H9 =>
  v5 = .tuple #[] ∧ (
  CallsH Try.prog n_pciconf_Device_define #[.pointer (some (⟨H4.size, 0, none⟩ : Addr)), .int .i64 (60 : Int), .int .i64 (1 : Int), .int .u64 (0 : Int), .int .u64 (255 : Int)] H9 (fun v6 H10 =>
  v6 = .tuple #[] ∧ (
  ∃ x21 : Int, rd H10 ((⟨H.size, 0, none⟩ : Addr).add 8) = some (.int .i64 x21) ∧ (
  CallsH Try.prog n_pciconf_Device_define #[.pointer (some (⟨H4.size, 0, none⟩ : Addr)), .int .i64 (61 : Int), .int .i64 (1 : Int), .int .u64 (IntKind.u64.wrap x21), .int .u64 (0 : Int)] H10 (fun v7 H11 =>
  v7 = .tuple #[] ∧ (
  ∃ x22 : Sl, rd H11 ((⟨H4.size, 0, none⟩ : Addr).add 512) = some (.slice x22.p x22.n x22.c) ∧ (
  ∃ I_ : Int → Heap → Prop, ∃ M_ : Int → Heap → Nat, I_ (0 : Int) H11 ∧ (∀ x23 : Int, ∀ H12 : Heap, I_ x23 H12 → F_pciconf_New_r1 R H H4 x22 I_ M_ x23 H12))))))))))))))))))))))))))))))))))

theorem F_pciconf_New_eq (R : Value → Heap → Prop) (f_0 : Int) (f_1 : Int) (f_2 : Int) (f_3 : Int) (f_4 : Bool) (f_5 : Bool) (f_6 : Bool) (f_7 : Int) (f_8 : Int) (f_9 : Int) (f_10 : Sl) (H : Heap) : wpF Try.prog Try.f7 [(51, .int .i64 0)] [] [(11, [51], [1, 4, 49, 50])] [19] [.agg #[.int .i64 f_0, .int .i64 f_1, .int .i64 f_2, .int .i64 f_3, .bool f_4, .bool f_5, .bool f_6, .int .i64 f_7, .int .i64 f_8, .int .i64 f_9, .slice f_10.p f_10.n f_10.c]] H R = F_pciconf_New R f_0 f_1 f_2 f_3 f_4 f_5 f_6 f_7 f_8 f_9 f_10 H := by kernel_rfl

theorem F_pciconf_New_ok {R : Value → Heap → Prop} (f_0 : Int) (f_1 : Int) (f_2 : Int) (f_3 : Int) (f_4 : Bool) (f_5 : Bool) (f_6 : Bool) (f_7 : Int) (f_8 : Int) (f_9 : Int) (f_10 : Sl) {H : Heap} (h : F_pciconf_New R f_0 f_1 f_2 f_3 f_4 f_5 f_6 f_7 f_8 f_9 f_10 H) : CallsH Try.prog n_pciconf_New #[.agg #[.int .i64 f_0, .int .i64 f_1, .int .i64 f_2, .int .i64 f_3, .bool f_4, .bool f_5, .bool f_6, .int .i64 f_7, .int .i64 f_8, .int .i64 f_9, .slice f_10.p f_10.n f_10.c]] H R :=
  wpF_ok Try.func7 (F_pciconf_New_eq R f_0 f_1 f_2 f_3 f_4 f_5 f_6 f_7 f_8 f_9 f_10 H) h

/-! ### 8: platformfw/pciconf.Valid -/

def F_pciconf_Valid_r1 (R : Value → Heap → Prop) (H : Heap) (x23 : Sl) (I_ : Int → Heap → Prop) (M_ : Int → Heap → Nat) (x24 : Int) (H5 : Heap) : Prop :=
  iteB (decide (x24 < (x23.n : Int))) (
  ∃ x25 : Sl, rd H5 ((⟨H.size, 0, none⟩ : Addr).add 10) = some (.slice x25.p x25.n x25.c) ∧ (
  CallsH Try.prog n_pciconf_validBar #[.slice x25.p x25.n x25.c, .int .i64 x24] H5 (fun v1 H6 =>
  ∃ x26 : Bool, v1 = .bool x26 ∧ (
  iteB (!x26) (
  R (.bool false) H6) (
  I_ (IntKind.i64.wrap (x24 + (1 : Int))) H6 ∧ M_ (IntKind.i64.wrap (x24 + (1 : Int))) H6 < M_ x24 H5))))) (
  R (.bool true) H5)

def F_pciconf_Valid_k2 (R : Value → Heap → Prop) (H : Heap) (H3 : Heap) : Prop :=
  ∃ x20 : Sl, rd H3 ((⟨H.size, 0, none⟩ : Addr).add 10) = some (.slice x20.p x20.n x20.c) ∧ (
  ∃ x21 : Bool, rd H3 ((⟨H.size, 0, none⟩ : Addr).add 4) = some (.bool x21) ∧ (
  CallsH Try.prog n_pciconf_registers #[.bool x21] H3 (fun v H4 =>
  ∃ x22 : Int, v = .int .i64 x22 ∧ (
  Keeps H3 H4 [(((⟨H.size, 0, none⟩ : Addr).add 10), 1)] ∧ (
  iteB (decide ((x20.n : Int) > x22)) (
  R (.bool false) H4) (
  ∃ x23 : Sl, rd H4 ((⟨H.size, 0, none⟩ : Addr).add 10) = some (.slice x23.p x23.n x23.c) ∧ (
  ∃ I_ : Int → Heap → Prop, ∃ M_ : Int → Heap → Nat, I_ (0 : Int) H4 ∧ (∀ x24 : Int, ∀ H5 : Heap, I_ x24 H5 → F_pciconf_Valid_r1 R H x23 I_ M_ x24 H5))))))))

def F_pciconf_Valid_k3 (R : Value → Heap → Prop) (H : Heap) (H2 : Heap) : Prop :=
  ∃ J_1 : Heap → Prop, (
  ∃ x17 : Bool, rd H2 ((⟨H.size, 0, none⟩ : Addr).add 4) = some (.bool x17) ∧ (
  iteB (!x17) (
  ∃ x18 : Bool, rd H2 ((⟨H.size, 0, none⟩ : Addr).add 5) = some (.bool x18) ∧ (
  iteB x18 (
  R (.bool false) H2) (
  ∃ x19 : Bool, rd H2 ((⟨H.size, 0, none⟩ : Addr).add 6) = some (.bool x19) ∧ (
  iteB x19 (
  R (.bool false) H2) (
  J_1 H2))))) (
  J_1 H2))) ∧ (∀ H3 : Heap, J_1 H3 → F_pciconf_Valid_k2 R H H3)

def F_pciconf_Valid (R : Value → Heap → Prop) (f_0 : Int) (f_1 : Int) (f_2 : Int) (f_3 : Int) (f_4 : Bool) (f_5 : Bool) (f_6 : Bool) (f_7 : Int) (f_8 : Int) (f_9 : Int) (f_10 : Sl) (H : Heap) : Prop :=
  letH (H.push (.cells #[.int .i64 f_0, .int .i64 f_1, .int .i64 f_2, .int .i64 f_3, .bool f_4, .bool f_5, .bool f_6, .int .i64 f_7, .int .i64 f_8, .int .i64 f_9, .slice f_10.p f_10.n f_10.c] t_api_Function (0, 0))) (fun H1 : Heap =>
  ∃ x : Int, rd H1 ((⟨H.size, 0, none⟩ : Addr).add 2) = some (.int .i64 x) ∧ (
  iteB (decide (x < (1 : Int))) (
  R (.bool false) H1) (
  ∃ x1 : Int, rd H1 ((⟨H.size, 0, none⟩ : Addr).add 2) = some (.int .i64 x1) ∧ (
  iteB (decide (x1 > (65534 : Int))) (
  R (.bool false) H1) (
  ∃ x2 : Int, rd H1 ((⟨H.size, 0, none⟩ : Addr).add 3) = some (.int .i64 x2) ∧ (
  iteB (decide (x2 < (0 : Int))) (
  R (.bool false) H1) (
  ∃ x3 : Int, rd H1 ((⟨H.size, 0, none⟩ : Addr).add 3) = some (.int .i64 x3) ∧ (
  iteB (decide (x3 > (65535 : Int))) (
  R (.bool false) H1) (
  ∃ x4 : Int, rd H1 ((⟨H.size, 0, none⟩ : Addr).add 1) = some (.int .i64 x4) ∧ (
  iteB (decide (x4 < (0 : Int))) (
  R (.bool false) H1) (
  ∃ x5 : Int, rd H1 ((⟨H.size, 0, none⟩ : Addr).add 1) = some (.int .i64 x5) ∧ (
  iteB (decide (x5 > (31 : Int))) (
  R (.bool false) H1) (
  ∃ x6 : Int, rd H1 ((⟨H.size, 0, none⟩ : Addr).add 8) = some (.int .i64 x6) ∧ (
  iteB (decide (x6 < (0 : Int))) (
  R (.bool false) H1) (
  ∃ x7 : Int, rd H1 ((⟨H.size, 0, none⟩ : Addr).add 8) = some (.int .i64 x7) ∧ (
  iteB (decide (x7 > (4 : Int))) (
  R (.bool false) H1) (
  ∃ x8 : Int, rd H1 ((⟨H.size, 0, none⟩ : Addr).add 9) = some (.int .i64 x8) ∧ (
  iteB (decide (x8 < (0 : Int))) (
  R (.bool false) H1) (
  ∃ x9 : Int, rd H1 ((⟨H.size, 0, none⟩ : Addr).add 9) = some (.int .i64 x9) ∧ (
  iteB (decide (x9 > (32 : Int))) (
  R (.bool false) H1) (
  ∃ x10 : Int, rd H1 ((⟨H.size, 0, none⟩ : Addr).add 9) = some (.int .i64 x10) ∧ (
  ∃ x11 : Int, rd H1 ((⟨H.size, 0, none⟩ : Addr).add 9) = some (.int .i64 x11) ∧ (
  iteB ((bitsAnd .i64 x10 (IntKind.i64.wrap (x11 - (1 : Int)))) != (0 : Int)) (
  R (.bool false) H1) (
  ∃ J_ : Heap → Prop, (
  ∃ x12 : Int, rd H1 ((⟨H.size, 0, none⟩ : Addr).add 7) = some (.int .i64 x12) ∧ (
  iteB (decide (x12 < (0 : Int))) (
  R (.bool false) H1) (
  ∃ x13 : Int, rd H1 ((⟨H.size, 0, none⟩ : Addr).add 7) = some (.int .i64 x13) ∧ (
  iteB (decide (x13 > (32 : Int))) (
  R (.bool false) H1) (
  ∃ x14 : Int, rd H1 ((⟨H.size, 0, none⟩ : Addr).add 7) = some (.int .i64 x14) ∧ (
  iteB (decide (x14 > (0 : Int))) (
  ∃ x15 : Bool, rd H1 ((⟨H.size, 0, none⟩ : Addr).add 4) = some (.bool x15) ∧ (
  iteB x15 (
  ∃ x16 : Bool, rd H1 ((⟨H.size, 0, none⟩ : Addr).add 6) = some (.bool x16) ∧ (
  iteB (!x16) (
  R (.bool false) H1) (
  J_ H1))) (
  R (.bool false) H1))) (
  J_ H1))))))) ∧ (∀ H2 : Heap, J_ H2 → F_pciconf_Valid_k3 R H H2)))))))))))))))))))))))))

theorem F_pciconf_Valid_eq (R : Value → Heap → Prop) (f_0 : Int) (f_1 : Int) (f_2 : Int) (f_3 : Int) (f_4 : Bool) (f_5 : Bool) (f_6 : Bool) (f_7 : Int) (f_8 : Int) (f_9 : Int) (f_10 : Sl) (H : Heap) : wpF Try.prog Try.f8 [(100, .int .i64 0)] [(9, [], [1]), (11, [], [1])] [(14, [100], [1, 99])] [19] [.agg #[.int .i64 f_0, .int .i64 f_1, .int .i64 f_2, .int .i64 f_3, .bool f_4, .bool f_5, .bool f_6, .int .i64 f_7, .int .i64 f_8, .int .i64 f_9, .slice f_10.p f_10.n f_10.c]] H R = F_pciconf_Valid R f_0 f_1 f_2 f_3 f_4 f_5 f_6 f_7 f_8 f_9 f_10 H := by kernel_rfl

theorem F_pciconf_Valid_ok {R : Value → Heap → Prop} (f_0 : Int) (f_1 : Int) (f_2 : Int) (f_3 : Int) (f_4 : Bool) (f_5 : Bool) (f_6 : Bool) (f_7 : Int) (f_8 : Int) (f_9 : Int) (f_10 : Sl) {H : Heap} (h : F_pciconf_Valid R f_0 f_1 f_2 f_3 f_4 f_5 f_6 f_7 f_8 f_9 f_10 H) : CallsH Try.prog n_pciconf_Valid #[.agg #[.int .i64 f_0, .int .i64 f_1, .int .i64 f_2, .int .i64 f_3, .bool f_4, .bool f_5, .bool f_6, .int .i64 f_7, .int .i64 f_8, .int .i64 f_9, .slice f_10.p f_10.n f_10.c]] H R :=
  wpF_ok Try.func8 (F_pciconf_Valid_eq R f_0 f_1 f_2 f_3 f_4 f_5 f_6 f_7 f_8 f_9 f_10 H) h

/-! ### 9: platformfw/platformfwref18.ValidFunction -/

def F_ref18_ValidFunction_k1 (R : Value → Heap → Prop) (H : Heap) (I_ : Int → Heap → Prop) (M_ : Int → Heap → Nat) (i : Int) (H4 : Heap) (x46 : Bool) (H7 : Heap) : Prop :=
  iteB x46 (
  ∃ x47 : Int, rd H7 ((⟨H4.size, 0, none⟩ : Addr).add 1) = some (.int .i64 x47) ∧ (
  iteB (decide (x47 < (4 : Int))) (
  R (.bool false) H7) (
  ∃ x48 : Int, rd H7 ((⟨H4.size, 0, none⟩ : Addr).add 1) = some (.int .i64 x48) ∧ (
  iteB (decide (x48 > (40 : Int))) (
  R (.bool false) H7) (
  ∃ x49 : Sl, rd H7 ((⟨H.size, 0, none⟩ : Addr).add 10) = some (.slice x49.p x49.n x49.c) ∧ (
  iteB (decide ((IntKind.i64.wrap (i + (1 : Int))) ≥ (x49.n : Int))) (
  R (.bool false) H7) (
  ∃ x50 : Sl, rd H7 ((⟨H.size, 0, none⟩ : Addr).add 10) = some (.slice x50.p x50.n x50.c) ∧ (
  0 ≤ (IntKind.i64.wrap (i + (1 : Int))) ∧ (IntKind.i64.wrap (i + (1 : Int))) < (x50.n : Int) ∧ (unSome x50.p (fun a1 =>
  ∃ x51 : Int, rd H7 (a1.add ((IntKind.i64.wrap (i + (1 : Int))).toNat * 2)) = some (.int .i64 x51) ∧ (
  iteB (x51 != (0 : Int)) (
  R (.bool false) H7) (
  letV (IntKind.i64.wrap (i + (1 : Int))) (fun i4 : Int =>
  I_ i4 H7 ∧ M_ i4 H7 < M_ i H4))))))))))))) (
  R (.bool false) H7)

def F_ref18_ValidFunction_r2 (R : Value → Heap → Prop) (H : Heap) (I_ : Int → Heap → Prop) (M_ : Int → Heap → Nat) (i : Int) (H4 : Heap) : Prop :=
  ∃ x36 : Sl, rd H4 ((⟨H.size, 0, none⟩ : Addr).add 10) = some (.slice x36.p x36.n x36.c) ∧ (
  iteB (decide (i < (x36.n : Int))) (
  ∃ x37 : Sl, rd H4 ((⟨H.size, 0, none⟩ : Addr).add 10) = some (.slice x37.p x37.n x37.c) ∧ (
  0 ≤ i ∧ i < (x37.n : Int) ∧ (unSome x37.p (fun a =>
  ∃ x38 : Int, rd H4 (a.add (i.toNat * 2)) = some (.int .i64 x38) ∧ ∃ x39 : Int, rd H4 ((a.add (i.toNat * 2)).add 1) = some (.int .i64 x39) ∧ (
  letH (H4.push (.cells #[.int .i64 (0 : Int), .int .i64 (0 : Int)] t_api_Bar (0, 0))) (fun H5 : Heap =>
  okRow H5 (⟨H4.size, 0, none⟩ : Addr) 2 ∧ (
  letH (wrs H5 (⟨H4.size, 0, none⟩ : Addr) [.int .i64 x38, .int .i64 x39]) (fun H6 : Heap =>
  ∃ x40 : Int, rd H6 (⟨H4.size, 0, none⟩ : Addr) = some (.int .i64 x40) ∧ (
  iteB (x40 == (0 : Int)) (
  ∃ x41 : Int, rd H6 ((⟨H4.size, 0, none⟩ : Addr).add 1) = some (.int .i64 x41) ∧ (
  iteB (x41 != (0 : Int)) (
  R (.bool false) H6) (
  letV (IntKind.i64.wrap (i + (1 : Int))) (fun i1 : Int =>
  I_ i1 H6 ∧ M_ i1 H6 < M_ i H4)))) (
  iteB (x40 == (1 : Int)) (
  ∃ x42 : Int, rd H6 ((⟨H4.size, 0, none⟩ : Addr).add 1) = some (.int .i64 x42) ∧ (
  iteB (decide (x42 < (2 : Int))) (
  R (.bool false) H6) (
  ∃ x43 : Int, rd H6 ((⟨H4.size, 0, none⟩ : Addr).add 1) = some (.int .i64 x43) ∧ (
  iteB (decide (x43 > (8 : Int))) (
  R (.bool false) H6) (
  letV (IntKind.i64.wrap (i + (1 : Int))) (fun i2 : Int =>
  I_ i2 H6 ∧ M_ i2 H6 < M_ i H4)))))) (
  iteB (x40 == (2 : Int)) (
  ∃ x44 : Int, rd H6 ((⟨H4.size, 0, none⟩ : Addr).add 1) = some (.int .i64 x44) ∧ (
  iteB (decide (x44 < (4 : Int))) (
  R (.bool false) H6) (
  ∃ x45 : Int, rd H6 ((⟨H4.size, 0, none⟩ : Addr).add 1) = some (.int .i64 x45) ∧ (
  iteB (decide (x45 > (31 : Int))) (
  R (.bool false) H6) (
  letV (IntKind.i64.wrap (i + (1 : Int))) (fun i3 : Int =>
  I_ i3 H6 ∧ M_ i3 H6 < M_ i H4)))))) (
  ∃ J_1 : Bool → Heap → Prop, (
  iteB (x40 == (3 : Int)) (
  J_1 true H6) (
  J_1 (x40 == (4 : Int)) H6)) ∧ (∀ x46 : Bool, ∀ H7 : Heap, J_1 x46 H7 → F_ref18_ValidFunction_k1 R H I_ M_ i H4 x46 H7))))))))))))) (
  R (.bool true) H4))

def F_ref18_ValidFunction_k3 (R : Value → Heap → Prop) (H : Heap) (H2 : Heap) : Prop :=
  ∃ x23 : Sl, rd H2 ((⟨H.size, 0, none⟩ : Addr).add 10) = some (.slice x23.p x23.n x23.c) ∧ (
  ∃ x24 : Int, rd H2 (⟨H.size, 0, none⟩ : Addr) = some (.int .i64 x24) ∧ ∃ x25 : Int, rd H2 ((⟨H.size, 0, none⟩ : Addr).add 1) = some (.int .i64 x25) ∧ ∃ x26 : Int, rd H2 ((⟨H.size, 0, none⟩ : Addr).add 2) = some (.int .i64 x26) ∧ ∃ x27 : Int, rd H2 ((⟨H.size, 0, none⟩ : Addr).add 3) = some (.int .i64 x27) ∧ ∃ x28 : Bool, rd H2 ((⟨H.size, 0, none⟩ : Addr).add 4) = some (.bool x28) ∧ ∃ x29 : Bool, rd H2 ((⟨H.size, 0, none⟩ : Addr).add 5) = some (.bool x29) ∧ ∃ x30 : Bool, rd H2 ((⟨H.size, 0, none⟩ : Addr).add 6) = some (.bool x30) ∧ ∃ x31 : Int, rd H2 ((⟨H.size, 0, none⟩ : Addr).add 7) = some (.int .i64 x31) ∧ ∃ x32 : Int, rd H2 ((⟨H.size, 0, none⟩ : Addr).add 8) = some (.int .i64 x32) ∧ ∃ x33 : Int, rd H2 ((⟨H.size, 0, none⟩ : Addr).add 9) = some (.int .i64 x33) ∧ ∃ x34 : Sl, rd H2 ((⟨H.size, 0, none⟩ : Addr).add 10) = some (.slice x34.p x34.n x34.c) ∧ (
  CallsH Try.prog n_ref18_Registers #[.agg #[.int .i64 x24, .int .i64 x25, .int .i64 x26, .int .i64 x27, .bool x28, .bool x29, .bool x30, .int .i64 x31, .int .i64 x32, .int .i64 x33, .slice x34.p x34.n x34.c]] H2 (fun v H3 =>
  ∃ x35 : Int, v = .int .i64 x35 ∧ (
  Keeps H2 H3 [(((⟨H.size, 0, none⟩ : Addr).add 10), 1)] ∧ (
  iteB (decide ((x23.n : Int) > x35)) (
  R (.bool false) H3) (
  ∃ I_ : Int → Heap → Prop, ∃ M_ : Int → Heap → Nat, I_ (0 : Int) H3 ∧ (∀ i : Int, ∀ H4 : Heap, I_ i H4 → F_ref18_ValidFunction_r2 R H I_ M_ i H4)))))))

def F_ref18_ValidFunction (R : Value → Heap → Prop) (f_0 : Int) (f_1 : Int) (f_2 : Int) (f_3 : Int) (f_4 : Bool) (f_5 : Bool) (f_6 : Bool) (f_7 : Int) (f_8 : Int) (f_9 : Int) (f_10 : Sl) (H : Heap) : Prop :=
  letH (H.push (.cells #[.int .i64 f_0, .int .i64 f_1, .int .i64 f_2, .int .i64 f_3, .bool f_4, .bool f_5, .bool f_6, .int .i64 f_7, .int .i64 f_8, .int .i64 f_9, .slice f_10.p f_10.n f_10.c] t_api_Function (0, 0))) (fun H1 : Heap =>
  ∃ x : Int, rd H1 ((⟨H.size, 0, none⟩ : Addr).add 2) = some (.int .i64 x) ∧ (
  iteB (decide (x < (1 : Int))) (
  R (.bool false) H1) (
  ∃ x1 : Int, rd H1 ((⟨H.size, 0, none⟩ : Addr).add 2) = some (.int .i64 x1) ∧ (
  iteB (decide (x1 > (65534 : Int))) (
  R (.bool false) H1) (
  ∃ x2 : Int, rd H1 ((⟨H.size, 0, none⟩ : Addr).add 3) = some (.int .i64 x2) ∧ (
  iteB (decide (x2 < (0 : Int))) (
  R (.bool false) H1) (
  ∃ x3 : Int, rd H1 ((⟨H.size, 0, none⟩ : Addr).add 3) = some (.int .i64 x3) ∧ (
  iteB (decide (x3 > (65535 : Int))) (
  R (.bool false) H1) (
  ∃ x4 : Int, rd H1 ((⟨H.size, 0, none⟩ : Addr).add 1) = some (.int .i64 x4) ∧ (
  iteB (decide (x4 < (0 : Int))) (
  R (.bool false) H1) (
  ∃ x5 : Int, rd H1 ((⟨H.size, 0, none⟩ : Addr).add 1) = some (.int .i64 x5) ∧ (
  iteB (decide (x5 > (31 : Int))) (
  R (.bool false) H1) (
  ∃ x6 : Int, rd H1 ((⟨H.size, 0, none⟩ : Addr).add 8) = some (.int .i64 x6) ∧ (
  iteB (decide (x6 < (0 : Int))) (
  R (.bool false) H1) (
  ∃ x7 : Int, rd H1 ((⟨H.size, 0, none⟩ : Addr).add 8) = some (.int .i64 x7) ∧ (
  iteB (decide (x7 > (4 : Int))) (
  R (.bool false) H1) (
  ∃ x8 : Int, rd H1 ((⟨H.size, 0, none⟩ : Addr).add 7) = some (.int .i64 x8) ∧ (
  iteB (decide (x8 < (0 : Int))) (
  R (.bool false) H1) (
  ∃ x9 : Int, rd H1 ((⟨H.size, 0, none⟩ : Addr).add 7) = some (.int .i64 x9) ∧ (
  iteB (decide (x9 > (32 : Int))) (
  R (.bool false) H1) (
  ∃ J_ : Heap → Prop, (
  ∃ x10 : Int, rd H1 ((⟨H.size, 0, none⟩ : Addr).add 9) = some (.int .i64 x10) ∧ (
  iteB (decide (x10 < (0 : Int))) (
  R (.bool false) H1) (
  ∃ x11 : Int, rd H1 ((⟨H.size, 0, none⟩ : Addr).add 9) = some (.int .i64 x11) ∧ (
  iteB (decide (x11 > (32 : Int))) (
  R (.bool false) H1) (
  ∃ x12 : Int, rd H1 ((⟨H.size, 0, none⟩ : Addr).add 9) = some (.int .i64 x12) ∧ (
  ∃ x13 : Int, rd H1 ((⟨H.size, 0, none⟩ : Addr).add 9) = some (.int .i64 x13) ∧ (
  iteB ((bitsAnd .i64 x12 (IntKind.i64.wrap (x13 - (1 : Int)))) != (0 : Int)) (
  R (.bool false) H1) (
  ∃ x14 : Int, rd H1 ((⟨H.size, 0, none⟩ : Addr).add 7) = some (.int .i64 x14) ∧ (
  iteB (decide (x14 > (0 : Int))) (
  ∃ x15 : Bool, rd H1 ((⟨H.size, 0, none⟩ : Addr).add 4) = some (.bool x15) ∧ (
  iteB (!x15) (
  R (.bool false) H1) (
  ∃ x16 : Bool, rd H1 ((⟨H.size, 0, none⟩ : Addr).add 6) = some (.bool x16) ∧ (
  iteB (!x16) (
  R (.bool false) H1) (
  ∃ x17 : Bool, rd H1 ((⟨H.size, 0, none⟩ : Addr).add 4) = some (.bool x17) ∧ (
  iteB (!x17) (
  ∃ x18 : Bool, rd H1 ((⟨H.size, 0, none⟩ : Addr).add 5) = some (.bool x18) ∧ (
  iteB x18 (
  R (.bool false) H1) (
  ∃ x19 : Bool, rd H1 ((⟨H.size, 0, none⟩ : Addr).add 6) = some (.bool x19) ∧ (
  iteB x19 (
  R (.bool false) H1) (
  J_ H1))))) (
  J_ H1))))))) (
  ∃ x20 : Bool, rd H1 ((⟨H.size, 0, none⟩ : Addr).add 4) = some (.bool x20) ∧ (
  iteB (!x20) (
  ∃ x21 : Bool, rd H1 ((⟨H.size, 0, none⟩ : Addr).add 5) = some (.bool x21) ∧ (
  iteB x21 (
  R (.bool false) H1) (
  ∃ x22 : Bool, rd H1 ((⟨H.size, 0, none⟩ : Addr).add 6) = some (.bool x22) ∧ (
  iteB x22 (
  R (.bool false) H1) (
  J_ H1))))) (
  J_ H1)))))))))))) ∧ (∀ H2 : Heap, J_ H2 → F_ref18_ValidFunction_k3 R H H2))))))))))))))))))))))

theorem F_ref18_ValidFunction_eq (R : Value → Heap → Prop) (f_0 : Int) (f_1 : Int) (f_2 : Int) (f_3 : Int) (f_4 : Bool) (f_5 : Bool) (f_6 : Bool) (f_7 : Int) (f_8 : Int) (f_9 : Int) (f_10 : Sl) (H : Heap) : wpF Try.prog Try.f9 [(3, .int .i64 0), (143, .bool false)] [(5, [], [1]), (24, [143], [1, 3, 4])] [(8, [3], [1])] [19] [.agg #[.int .i64 f_0, .int .i64 f_1, .int .i64 f_2, .int .i64 f_3, .bool f_4, .bool f_5, .bool f_6, .int .i64 f_7, .int .i64 f_8, .int .i64 f_9, .slice f_10.p f_10.n f_10.c]] H R = F_ref18_ValidFunction R f_0 f_1 f_2 f_3 f_4 f_5 f_6 f_7 f_8 f_9 f_10 H := by kernel_rfl

theorem F_ref18_ValidFunction_ok {R : Value → Heap → Prop} (f_0 : Int) (f_1 : Int) (f_2 : Int) (f_3 : Int) (f_4 : Bool) (f_5 : Bool) (f_6 : Bool) (f_7 : Int) (f_8 : Int) (f_9 : Int) (f_10 : Sl) {H : Heap} (h : F_ref18_ValidFunction R f_0 f_1 f_2 f_3 f_4 f_5 f_6 f_7 f_8 f_9 f_10 H) : CallsH Try.prog n_ref18_ValidFunction #[.agg #[.int .i64 f_0, .int .i64 f_1, .int .i64 f_2, .int .i64 f_3, .bool f_4, .bool f_5, .bool f_6, .int .i64 f_7, .int .i64 f_8, .int .i64 f_9, .slice f_10.p f_10.n f_10.c]] H R :=
  wpF_ok Try.func9 (F_ref18_ValidFunction_eq R f_0 f_1 f_2 f_3 f_4 f_5 f_6 f_7 f_8 f_9 f_10 H) h

/-! ### 10: platformfw/platformfwlaw18.some -/

def F_law18_some_k1 (H5 : Heap) (I_ : Int → Heap → Prop) (M_ : Int → Heap → Nat) (i : Int) (H13 : Heap) (k : Int) (n4 : Int) (H18 : Heap) : Prop :=
  ∃ x62 : Sl, rd H18 ((⟨H5.size, 0, none⟩ : Addr).add 10) = some (.slice x62.p x62.n x62.c) ∧ (
  letH (H18.push (.cells #[.int .i64 k, .int .i64 n4] t_api_Bar (0, 0))) (fun H19 : Heap =>
  runH Try.prog (Builtin.append_ #[t_sl_api_Bar, t_sl_api_Bar] t_sl_api_Bar #[.slice x62.p x62.n x62.c, .slice (some (⟨H18.size, 0, none⟩ : Addr)) 1 1]) H19 (fun v11 H20 =>
  ∃ x63 : Sl, v11 = .slice x63.p x63.n x63.c ∧ (
  okRow H20 ((⟨H5.size, 0, none⟩ : Addr).add 10) 1 ∧ (
  letH (wrs H20 ((⟨H5.size, 0, none⟩ : Addr).add 10) [.slice x63.p x63.n x63.c]) (fun H21 : Heap =>
  iteB (decide (k ≥ (3 : Int))) (
  ∃ x64 : Sl, rd H21 ((⟨H5.size, 0, none⟩ : Addr).add 10) = some (.slice x64.p x64.n x64.c) ∧ (
  letH (H21.push (.cells #[.int .i64 (0 : Int), .int .i64 (0 : Int)] t_api_Bar (0, 0))) (fun H22 : Heap =>
  runH Try.prog (Builtin.append_ #[t_sl_api_Bar, t_sl_api_Bar] t_sl_api_Bar #[.slice x64.p x64.n x64.c, .slice (some (⟨H21.size, 0, none⟩ : Addr)) 1 1]) H22 (fun v12 H23 =>
  ∃ x65 : Sl, v12 = .slice x65.p x65.n x65.c ∧ (
  okRow H23 ((⟨H5.size, 0, none⟩ : Addr).add 10) 1 ∧ (
  letH (wrs H23 ((⟨H5.size, 0, none⟩ : Addr).add 10) [.slice x65.p x65.n x65.c]) (fun H24 : Heap =>
  letV (IntKind.i64.wrap (i + (1 : Int))) (fun i2 : Int =>
  I_ i2 H24 ∧ M_ i2 H24 < M_ i H13)))))))) (
  letV (IntKind.i64.wrap (i + (1 : Int))) (fun i3 : Int =>
  I_ i3 H21 ∧ M_ i3 H21 < M_ i H13))))))))

def F_law18_some_r2 (R : Value → Heap → Prop) (H : Heap) (H1 : Heap) (H5 : Heap) (I_ : Int → Heap → Prop) (M_ : Int → Heap → Nat) (i : Int) (H13 : Heap) : Prop :=
  ∃ x31 : Sl, rd H13 ((⟨H.size, 0, none⟩ : Addr).add 10) = some (.slice x31.p x31.n x31.c) ∧ (
  iteB (decide (i < (x31.n : Int))) (
  ∃ x32 : Sl, rd H13 ((⟨H5.size, 0, none⟩ : Addr).add 10) = some (.slice x32.p x32.n x32.c) ∧ (
  ∃ x33 : Int, rd H13 (⟨H5.size, 0, none⟩ : Addr) = some (.int .i64 x33) ∧ ∃ x34 : Int, rd H13 ((⟨H5.size, 0, none⟩ : Addr).add 1) = some (.int .i64 x34) ∧ ∃ x35 : Int, rd H13 ((⟨H5.size, 0, none⟩ : Addr).add 2) = some (.int .i64 x35) ∧ ∃ x36 : Int, rd H13 ((⟨H5.size, 0, none⟩ : Addr).add 3) = some (.int .i64 x36) ∧ ∃ x37 : Bool, rd H13 ((⟨H5.size, 0, none⟩ : Addr).add 4) = some (.bool x37) ∧ ∃ x38 : Bool, rd H13 ((⟨H5.size, 0, none⟩ : Addr).add 5) = some (.bool x38) ∧ ∃ x39 : Bool, rd H13 ((⟨H5.size, 0, none⟩ : Addr).add 6) = some (.bool x39) ∧ ∃ x40 : Int, rd H13 ((⟨H5.size, 0, none⟩ : Addr).add 7) = some (.int .i64 x40) ∧ ∃ x41 : Int, rd H13 ((⟨H5.size, 0, none⟩ : Addr).add 8) = some (.int .i64 x41) ∧ ∃ x42 : Int, rd H13 ((⟨H5.size, 0, none⟩ : Addr).add 9) = some (.int .i64 x42) ∧ ∃ x43 : Sl, rd H13 ((⟨H5.size, 0, none⟩ : Addr).add 10) = some (.slice x43.p x43.n x43.c) ∧ (
  CallsH Try.prog n_ref18_Registers #[.agg #[.int .i64 x33, .int .i64 x34, .int .i64 x35, .int .i64 x36, .bool x37, .bool x38, .bool x39, .int .i64 x40, .int .i64 x41, .int .i64 x42, .slice x43.p x43.n x43.c]] H13 (fun v7 H14 =>
  ∃ x44 : Int, v7 = .int .i64 x44 ∧ (
  Keeps H13 H14 [(((⟨H5.size, 0, none⟩ : Addr).add 10), 1)] ∧ (
  iteB (decide ((x32.n : Int) < x44)) (
  ∃ x45 : Sl, rd H14 ((⟨H.size, 0, none⟩ : Addr).add 10) = some (.slice x45.p x45.n x45.c) ∧ (
  0 ≤ i ∧ i < (x45.n : Int) ∧ (unSome x45.p (fun a =>
  ∃ x46 : Int, rd H14 (a.add (i.toNat * 2)) = some (.int .i64 x46) ∧ (
  CallsH Try.prog n_help_Mod #[.int .i64 x46, .int .i64 (5 : Int)] H14 (fun v8 H15 =>
  ∃ k : Int, v8 = .int .i64 k ∧ (
  ∃ x47 : Sl, rd H15 ((⟨H.size, 0, none⟩ : Addr).add 10) = some (.slice x47.p x47.n x47.c) ∧ (
  0 ≤ i ∧ i < (x47.n : Int) ∧ (unSome x47.p (fun a1 =>
  ∃ x48 : Int, rd H15 ((a1.add (i.toNat * 2)).add 1) = some (.int .i64 x48) ∧ (
  CallsH Try.prog n_help_Mod #[.int .i64 x48, .int .i64 (48 : Int)] H15 (fun v9 H16 =>
  ∃ n : Int, v9 = .int .i64 n ∧ (
  ∃ J_1 : Int → Heap → Prop, (
  iteB (k == (0 : Int)) (
  J_1 (0 : Int) H16) (
  iteB (k == (1 : Int)) (
  letV (IntKind.i64.wrap ((2 : Int) + (n.tmod (7 : Int)))) (fun n1 : Int =>
  J_1 n1 H16)) (
  iteB (k == (2 : Int)) (
  letV (IntKind.i64.wrap ((4 : Int) + (n.tmod (28 : Int)))) (fun n2 : Int =>
  J_1 n2 H16)) (
  ∃ x49 : Sl, rd H16 ((⟨H5.size, 0, none⟩ : Addr).add 10) = some (.slice x49.p x49.n x49.c) ∧ (
  ∃ x50 : Int, rd H16 (⟨H5.size, 0, none⟩ : Addr) = some (.int .i64 x50) ∧ ∃ x51 : Int, rd H16 ((⟨H5.size, 0, none⟩ : Addr).add 1) = some (.int .i64 x51) ∧ ∃ x52 : Int, rd H16 ((⟨H5.size, 0, none⟩ : Addr).add 2) = some (.int .i64 x52) ∧ ∃ x53 : Int, rd H16 ((⟨H5.size, 0, none⟩ : Addr).add 3) = some (.int .i64 x53) ∧ ∃ x54 : Bool, rd H16 ((⟨H5.size, 0, none⟩ : Addr).add 4) = some (.bool x54) ∧ ∃ x55 : Bool, rd H16 ((⟨H5.size, 0, none⟩ : Addr).add 5) = some (.bool x55) ∧ ∃ x56 : Bool, rd H16 ((⟨H5.size, 0, none⟩ : Addr).add 6) = some (.bool x56) ∧ ∃ x57 : Int, rd H16 ((⟨H5.size, 0, none⟩ : Addr).add 7) = some (.int .i64 x57) ∧ ∃ x58 : Int, rd H16 ((⟨H5.size, 0, none⟩ : Addr).add 8) = some (.int .i64 x58) ∧ ∃ x59 : Int, rd H16 ((⟨H5.size, 0, none⟩ : Addr).add 9) = some (.int .i64 x59) ∧ ∃ x60 : Sl, rd H16 ((⟨H5.size, 0, none⟩ : Addr).add 10) = some (.slice x60.p x60.n x60.c) ∧ (
  CallsH Try.prog n_ref18_Registers #[.agg #[.int .i64 x50, .int .i64 x51, .int .i64 x52, .int .i64 x53, .bool x54, .bool x55, .bool x56, .int .i64 x57, .int .i64 x58, .int .i64 x59, .slice x60.p x60.n x60.c]] H16 (fun v10 H17 =>
  ∃ x61 : Int, v10 = .int .i64 x61 ∧ (
  Keeps H16 H17 [(((⟨H5.size, 0, none⟩ : Addr).add 10), 1)] ∧ (
  iteB (decide ((IntKind.i64.wrap ((x49.n : Int) + (2 : Int))) > x61)) (
  letV (IntKind.i64.wrap (i + (1 : Int))) (fun i1 : Int =>
  I_ i1 H17 ∧ M_ i1 H17 < M_ i H13)) (
  letV (IntKind.i64.wrap ((4 : Int) + (n.tmod (37 : Int)))) (fun n3 : Int =>
  J_1 n3 H17))))))))))) ∧ (∀ n4 : Int, ∀ H18 : Heap, J_1 n4 H18 → F_law18_some_k1 H5 I_ M_ i H13 k n4 H18)))))))))))))) (
  ∃ x66 : Int, rd H14 (⟨H5.size, 0, none⟩ : Addr) = some (.int .i64 x66) ∧ ∃ x67 : Int, rd H14 ((⟨H5.size, 0, none⟩ : Addr).add 1) = some (.int .i64 x67) ∧ ∃ x68 : Int, rd H14 ((⟨H5.size, 0, none⟩ : Addr).add 2) = some (.int .i64 x68) ∧ ∃ x69 : Int, rd H14 ((⟨H5.size, 0, none⟩ : Addr).add 3) = some (.int .i64 x69) ∧ ∃ x70 : Bool, rd H14 ((⟨H5.size, 0, none⟩ : Addr).add 4) = some (.bool x70) ∧ ∃ x71 : Bool, rd H14 ((⟨H5.size, 0, none⟩ : Addr).add 5) = some (.bool x71) ∧ ∃ x72 : Bool, rd H14 ((⟨H5.size, 0, none⟩ : Addr).add 6) = some (.bool x72) ∧ ∃ x73 : Int, rd H14 ((⟨H5.size, 0, none⟩ : Addr).add 7) = some (.int .i64 x73) ∧ ∃ x74 : Int, rd H14 ((⟨H5.size, 0, none⟩ : Addr).add 8) = some (.int .i64 x74) ∧ ∃ x75 : Int, rd H14 ((⟨H5.size, 0, none⟩ : Addr).add 9) = some (.int .i64 x75) ∧ ∃ x76 : Sl, rd H14 ((⟨H5.size, 0, none⟩ : Addr).add 10) = some (.slice x76.p x76.n x76.c) ∧ (
  okRow H14 (⟨H1.size, 0, none⟩ : Addr) 11 ∧ (
  letH (wrs H14 (⟨H1.size, 0, none⟩ : Addr) [.int .i64 x66, .int .i64 x67, .int .i64 x68, .int .i64 x69, .bool x70, .bool x71, .bool x72, .int .i64 x73, .int .i64 x74, .int .i64 x75, .slice x76.p x76.n x76.c]) (fun H25 : Heap =>
  ∃ r11 : Int, rd H25 (⟨H1.size, 0, none⟩ : Addr) = some (.int .i64 r11) ∧ ∃ r12 : Int, rd H25 ((⟨H1.size, 0, none⟩ : Addr).add 1) = some (.int .i64 r12) ∧ ∃ r13 : Int, rd H25 ((⟨H1.size, 0, none⟩ : Addr).add 2) = some (.int .i64 r13) ∧ ∃ r14 : Int, rd H25 ((⟨H1.size, 0, none⟩ : Addr).add 3) = some (.int .i64 r14) ∧ ∃ r15 : Bool, rd H25 ((⟨H1.size, 0, none⟩ : Addr).add 4) = some (.bool r15) ∧ ∃ r16 : Bool, rd H25 ((⟨H1.size, 0, none⟩ : Addr).add 5) = some (.bool r16) ∧ ∃ r17 : Bool, rd H25 ((⟨H1.size, 0, none⟩ : Addr).add 6) = some (.bool r17) ∧ ∃ r18 : Int, rd H25 ((⟨H1.size, 0, none⟩ : Addr).add 7) = some (.int .i64 r18) ∧ ∃ r19 : Int, rd H25 ((⟨H1.size, 0, none⟩ : Addr).add 8) = some (.int .i64 r19) ∧ ∃ r20 : Int, rd H25 ((⟨H1.size, 0, none⟩ : Addr).add 9) = some (.int .i64 r20) ∧ ∃ r21 : Sl, rd H25 ((⟨H1.size, 0, none⟩ : Addr).add 10) = some (.slice r21.p r21.n r21.c) ∧ (
  R (.agg #[.int .i64 r11, .int .i64 r12, .int .i64 r13, .int .i64 r14, .bool r15, .bool r16, .bool r17, .int .i64 r18, .int .i64 r19, .int .i64 r20, .slice r21.p r21.n r21.c]) H25))))))))))) (
  ∃ x77 : Int, rd H13 (⟨H5.size, 0, none⟩ : Addr) = some (.int .i64 x77) ∧ ∃ x78 : Int, rd H13 ((⟨H5.size, 0, none⟩ : Addr).add 1) = some (.int .i64 x78) ∧ ∃ x79 : Int, rd H13 ((⟨H5.size, 0, none⟩ : Addr).add 2) = some (.int .i64 x79) ∧ ∃ x80 : Int, rd H13 ((⟨H5.size, 0, none⟩ : Addr).add 3) = some (.int .i64 x80) ∧ ∃ x81 : Bool, rd H13 ((⟨H5.size, 0, none⟩ : Addr).add 4) = some (.bool x81) ∧ ∃ x82 : Bool, rd H13 ((⟨H5.size, 0, none⟩ : Addr).add 5) = some (.bool x82) ∧ ∃ x83 : Bool, rd H13 ((⟨H5.size, 0, none⟩ : Addr).add 6) = some (.bool x83) ∧ ∃ x84 : Int, rd H13 ((⟨H5.size, 0, none⟩ : Addr).add 7) = some (.int .i64 x84) ∧ ∃ x85 : Int, rd H13 ((⟨H5.size, 0, none⟩ : Addr).add 8) = some (.int .i64 x85) ∧ ∃ x86 : Int, rd H13 ((⟨H5.size, 0, none⟩ : Addr).add 9) = some (.int .i64 x86) ∧ ∃ x87 : Sl, rd H13 ((⟨H5.size, 0, none⟩ : Addr).add 10) = some (.slice x87.p x87.n x87.c) ∧ (
  okRow H13 (⟨H1.size, 0, none⟩ : Addr) 11 ∧ (
  letH (wrs H13 (⟨H1.size, 0, none⟩ : Addr) [.int .i64 x77, .int .i64 x78, .int .i64 x79, .int .i64 x80, .bool x81, .bool x82, .bool x83, .int .i64 x84, .int .i64 x85, .int .i64 x86, .slice x87.p x87.n x87.c]) (fun H26 : Heap =>
  ∃ r22 : Int, rd H26 (⟨H1.size, 0, none⟩ : Addr) = some (.int .i64 r22) ∧ ∃ r23 : Int, rd H26 ((⟨H1.size, 0, none⟩ : Addr).add 1) = some (.int .i64 r23) ∧ ∃ r24 : Int, rd H26 ((⟨H1.size, 0, none⟩ : Addr).add 2) = some (.int .i64 r24) ∧ ∃ r25 : Int, rd H26 ((⟨H1.size, 0, none⟩ : Addr).add 3) = some (.int .i64 r25) ∧ ∃ r26 : Bool, rd H26 ((⟨H1.size, 0, none⟩ : Addr).add 4) = some (.bool r26) ∧ ∃ r27 : Bool, rd H26 ((⟨H1.size, 0, none⟩ : Addr).add 5) = some (.bool r27) ∧ ∃ r28 : Bool, rd H26 ((⟨H1.size, 0, none⟩ : Addr).add 6) = some (.bool r28) ∧ ∃ r29 : Int, rd H26 ((⟨H1.size, 0, none⟩ : Addr).add 7) = some (.int .i64 r29) ∧ ∃ r30 : Int, rd H26 ((⟨H1.size, 0, none⟩ : Addr).add 8) = some (.int .i64 r30) ∧ ∃ r31 : Int, rd H26 ((⟨H1.size, 0, none⟩ : Addr).add 9) = some (.int .i64 r31) ∧ ∃ r32 : Sl, rd H26 ((⟨H1.size, 0, none⟩ : Addr).add 10) = some (.slice r32.p r32.n r32.c) ∧ (
  R (.agg #[.int .i64 r22, .int .i64 r23, .int .i64 r24, .int .i64 r25, .bool r26, .bool r27, .bool r28, .int .i64 r29, .int .i64 r30, .int .i64 r31, .slice r32.p r32.n r32.c]) H26))))))

def F_law18_some_k3 (R : Value → Heap → Prop) (H : Heap) (H1 : Heap) (H5 : Heap) (H12 : Heap) : Prop :=
  ∃ I_ : Int → Heap → Prop, ∃ M_ : Int → Heap → Nat, I_ (0 : Int) H12 ∧ (∀ i : Int, ∀ H13 : Heap, I_ i H13 → F_law18_some_r2 R H H1 H5 I_ M_ i H13)

def F_law18_some_k4 (H3 : Heap) (I_1 : Int → Heap → Prop) (M_1 : Int → Heap → Nat) (i4 : Int) (H35 : Heap) (k1 : Int) (n9 : Int) (H40 : Heap) : Prop :=
  ∃ x126 : Sl, rd H40 ((⟨H3.size, 0, none⟩ : Addr).add 10) = some (.slice x126.p x126.n x126.c) ∧ (
  letH (H40.push (.cells #[.int .i64 k1, .int .i64 n9] t_api_Bar (0, 0))) (fun H41 : Heap =>
  runH Try.prog (Builtin.append_ #[t_sl_api_Bar, t_sl_api_Bar] t_sl_api_Bar #[.slice x126.p x126.n x126.c, .slice (some (⟨H40.size, 0, none⟩ : Addr)) 1 1]) H41 (fun v18 H42 =>
  ∃ x127 : Sl, v18 = .slice x127.p x127.n x127.c ∧ (
  okRow H42 ((⟨H3.size, 0, none⟩ : Addr).add 10) 1 ∧ (
  letH (wrs H42 ((⟨H3.size, 0, none⟩ : Addr).add 10) [.slice x127.p x127.n x127.c]) (fun H43 : Heap =>
  iteB (decide (k1 ≥ (3 : Int))) (
  ∃ x128 : Sl, rd H43 ((⟨H3.size, 0, none⟩ : Addr).add 10) = some (.slice x128.p x128.n x128.c) ∧ (
  letH (H43.push (.cells #[.int .i64 (0 : Int), .int .i64 (0 : Int)] t_api_Bar (0, 0))) (fun H44 : Heap =>
  runH Try.prog (Builtin.append_ #[t_sl_api_Bar, t_sl_api_Bar] t_sl_api_Bar #[.slice x128.p x128.n x128.c, .slice (some (⟨H43.size, 0, none⟩ : Addr)) 1 1]) H44 (fun v19 H45 =>
  ∃ x129 : Sl, v19 = .slice x129.p x129.n x129.c ∧ (
  okRow H45 ((⟨H3.size, 0, none⟩ : Addr).add 10) 1 ∧ (
  letH (wrs H45 ((⟨H3.size, 0, none⟩ : Addr).add 10) [.slice x129.p x129.n x129.c]) (fun H46 : Heap =>
  letV (IntKind.i64.wrap (i4 + (1 : Int))) (fun i6 : Int =>
  I_1 i6 H46 ∧ M_1 i6 H46 < M_1 i4 H35)))))))) (
  letV (IntKind.i64.wrap (i4 + (1 : Int))) (fun i7 : Int =>
  I_1 i7 H43 ∧ M_1 i7 H43 < M_1 i4 H35))))))))

def F_law18_some_r5 (R : Value → Heap → Prop) (H : Heap) (H1 : Heap) (H3 : Heap) (I_1 : Int → Heap → Prop) (M_1 : Int → Heap → Nat) (i4 : Int) (H35 : Heap) : Prop :=
  ∃ x95 : Sl, rd H35 ((⟨H.size, 0, none⟩ : Addr).add 10) = some (.slice x95.p x95.n x95.c) ∧ (
  iteB (decide (i4 < (x95.n : Int))) (
  ∃ x96 : Sl, rd H35 ((⟨H3.size, 0, none⟩ : Addr).add 10) = some (.slice x96.p x96.n x96.c) ∧ (
  ∃ x97 : Int, rd H35 (⟨H3.size, 0, none⟩ : Addr) = some (.int .i64 x97) ∧ ∃ x98 : Int, rd H35 ((⟨H3.size, 0, none⟩ : Addr).add 1) = some (.int .i64 x98) ∧ ∃ x99 : Int, rd H35 ((⟨H3.size, 0, none⟩ : Addr).add 2) = some (.int .i64 x99) ∧ ∃ x100 : Int, rd H35 ((⟨H3.size, 0, none⟩ : Addr).add 3) = some (.int .i64 x100) ∧ ∃ x101 : Bool, rd H35 ((⟨H3.size, 0, none⟩ : Addr).add 4) = some (.bool x101) ∧ ∃ x102 : Bool, rd H35 ((⟨H3.size, 0, none⟩ : Addr).add 5) = some (.bool x102) ∧ ∃ x103 : Bool, rd H35 ((⟨H3.size, 0, none⟩ : Addr).add 6) = some (.bool x103) ∧ ∃ x104 : Int, rd H35 ((⟨H3.size, 0, none⟩ : Addr).add 7) = some (.int .i64 x104) ∧ ∃ x105 : Int, rd H35 ((⟨H3.size, 0, none⟩ : Addr).add 8) = some (.int .i64 x105) ∧ ∃ x106 : Int, rd H35 ((⟨H3.size, 0, none⟩ : Addr).add 9) = some (.int .i64 x106) ∧ ∃ x107 : Sl, rd H35 ((⟨H3.size, 0, none⟩ : Addr).add 10) = some (.slice x107.p x107.n x107.c) ∧ (
  CallsH Try.prog n_ref18_Registers #[.agg #[.int .i64 x97, .int .i64 x98, .int .i64 x99, .int .i64 x100, .bool x101, .bool x102, .bool x103, .int .i64 x104, .int .i64 x105, .int .i64 x106, .slice x107.p x107.n x107.c]] H35 (fun v14 H36 =>
  ∃ x108 : Int, v14 = .int .i64 x108 ∧ (
  Keeps H35 H36 [(((⟨H3.size, 0, none⟩ : Addr).add 10), 1)] ∧ (
  iteB (decide ((x96.n : Int) < x108)) (
  ∃ x109 : Sl, rd H36 ((⟨H.size, 0, none⟩ : Addr).add 10) = some (.slice x109.p x109.n x109.c) ∧ (
  0 ≤ i4 ∧ i4 < (x109.n : Int) ∧ (unSome x109.p (fun a2 =>
  ∃ x110 : Int, rd H36 (a2.add (i4.toNat * 2)) = some (.int .i64 x110) ∧ (
  CallsH Try.prog n_help_Mod #[.int .i64 x110, .int .i64 (5 : Int)] H36 (fun v15 H37 =>
  ∃ k1 : Int, v15 = .int .i64 k1 ∧ (
  ∃ x111 : Sl, rd H37 ((⟨H.size, 0, none⟩ : Addr).add 10) = some (.slice x111.p x111.n x111.c) ∧ (
  0 ≤ i4 ∧ i4 < (x111.n : Int) ∧ (unSome x111.p (fun a3 =>
  ∃ x112 : Int, rd H37 ((a3.add (i4.toNat * 2)).add 1) = some (.int .i64 x112) ∧ (
  CallsH Try.prog n_help_Mod #[.int .i64 x112, .int .i64 (48 : Int)] H37 (fun v16 H38 =>
  ∃ n5 : Int, v16 = .int .i64 n5 ∧ (
  ∃ J_3 : Int → Heap → Prop, (
  iteB (k1 == (0 : Int)) (
  J_3 (0 : Int) H38) (
  iteB (k1 == (1 : Int)) (
  letV (IntKind.i64.wrap ((2 : Int) + (n5.tmod (7 : Int)))) (fun n6 : Int =>
  J_3 n6 H38)) (
  iteB (k1 == (2 : Int)) (
  letV (IntKind.i64.wrap ((4 : Int) + (n5.tmod (28 : Int)))) (fun n7 : Int =>
  J_3 n7 H38)) (
  ∃ x113 : Sl, rd H38 ((⟨H3.size, 0, none⟩ : Addr).add 10) = some (.slice x113.p x113.n x113.c) ∧ (
  ∃ x114 : Int, rd H38 (⟨H3.size, 0, none⟩ : Addr) = some (.int .i64 x114) ∧ ∃ x115 : Int, rd H38 ((⟨H3.size, 0, none⟩ : Addr).add 1) = some (.int .i64 x115) ∧ ∃ x116 : Int, rd H38 ((⟨H3.size, 0, none⟩ : Addr).add 2) = some (.int .i64 x116) ∧ ∃ x117 : Int, rd H38 ((⟨H3.size, 0, none⟩ : Addr).add 3) = some (.int .i64 x117) ∧ ∃ x118 : Bool, rd H38 ((⟨H3.size, 0, none⟩ : Addr).add 4) = some (.bool x118) ∧ ∃ x119 : Bool, rd H38 ((⟨H3.size, 0, none⟩ : Addr).add 5) = some (.bool x119) ∧ ∃ x120 : Bool, rd H38 ((⟨H3.size, 0, none⟩ : Addr).add 6) = some (.bool x120) ∧ ∃ x121 : Int, rd H38 ((⟨H3.size, 0, none⟩ : Addr).add 7) = some (.int .i64 x121) ∧ ∃ x122 : Int, rd H38 ((⟨H3.size, 0, none⟩ : Addr).add 8) = some (.int .i64 x122) ∧ ∃ x123 : Int, rd H38 ((⟨H3.size, 0, none⟩ : Addr).add 9) = some (.int .i64 x123) ∧ ∃ x124 : Sl, rd H38 ((⟨H3.size, 0, none⟩ : Addr).add 10) = some (.slice x124.p x124.n x124.c) ∧ (
  CallsH Try.prog n_ref18_Registers #[.agg #[.int .i64 x114, .int .i64 x115, .int .i64 x116, .int .i64 x117, .bool x118, .bool x119, .bool x120, .int .i64 x121, .int .i64 x122, .int .i64 x123, .slice x124.p x124.n x124.c]] H38 (fun v17 H39 =>
  ∃ x125 : Int, v17 = .int .i64 x125 ∧ (
  Keeps H38 H39 [(((⟨H3.size, 0, none⟩ : Addr).add 10), 1)] ∧ (
  iteB (decide ((IntKind.i64.wrap ((x113.n : Int) + (2 : Int))) > x125)) (
  letV (IntKind.i64.wrap (i4 + (1 : Int))) (fun i5 : Int =>
  I_1 i5 H39 ∧ M_1 i5 H39 < M_1 i4 H35)) (
  letV (IntKind.i64.wrap ((4 : Int) + (n5.tmod (37 : Int)))) (fun n8 : Int =>
  J_3 n8 H39))))))))))) ∧ (∀ n9 : Int, ∀ H40 : Heap, J_3 n9 H40 → F_law18_some_k4 H3 I_1 M_1 i4 H35 k1 n9 H40)))))))))))))) (
  ∃ x130 : Int, rd H36 (⟨H3.size, 0, none⟩ : Addr) = some (.int .i64 x130) ∧ ∃ x131 : Int, rd H36 ((⟨H3.size, 0, none⟩ : Addr).add 1) = some (.int .i64 x131) ∧ ∃ x132 : Int, rd H36 ((⟨H3.size, 0, none⟩ : Addr).add 2) = some (.int .i64 x132) ∧ ∃ x133 : Int, rd H36 ((⟨H3.size, 0, none⟩ : Addr).add 3) = some (.int .i64 x133) ∧ ∃ x134 : Bool, rd H36 ((⟨H3.size, 0, none⟩ : Addr).add 4) = some (.bool x134) ∧ ∃ x135 : Bool, rd H36 ((⟨H3.size, 0, none⟩ : Addr).add 5) = some (.bool x135) ∧ ∃ x136 : Bool, rd H36 ((⟨H3.size, 0, none⟩ : Addr).add 6) = some (.bool x136) ∧ ∃ x137 : Int, rd H36 ((⟨H3.size, 0, none⟩ : Addr).add 7) = some (.int .i64 x137) ∧ ∃ x138 : Int, rd H36 ((⟨H3.size, 0, none⟩ : Addr).add 8) = some (.int .i64 x138) ∧ ∃ x139 : Int, rd H36 ((⟨H3.size, 0, none⟩ : Addr).add 9) = some (.int .i64 x139) ∧ ∃ x140 : Sl, rd H36 ((⟨H3.size, 0, none⟩ : Addr).add 10) = some (.slice x140.p x140.n x140.c) ∧ (
  okRow H36 (⟨H1.size, 0, none⟩ : Addr) 11 ∧ (
  letH (wrs H36 (⟨H1.size, 0, none⟩ : Addr) [.int .i64 x130, .int .i64 x131, .int .i64 x132, .int .i64 x133, .bool x134, .bool x135, .bool x136, .int .i64 x137, .int .i64 x138, .int .i64 x139, .slice x140.p x140.n x140.c]) (fun H47 : Heap =>
  ∃ r33 : Int, rd H47 (⟨H1.size, 0, none⟩ : Addr) = some (.int .i64 r33) ∧ ∃ r34 : Int, rd H47 ((⟨H1.size, 0, none⟩ : Addr).add 1) = some (.int .i64 r34) ∧ ∃ r35 : Int, rd H47 ((⟨H1.size, 0, none⟩ : Addr).add 2) = some (.int .i64 r35) ∧ ∃ r36 : Int, rd H47 ((⟨H1.size, 0, none⟩ : Addr).add 3) = some (.int .i64 r36) ∧ ∃ r37 : Bool, rd H47 ((⟨H1.size, 0, none⟩ : Addr).add 4) = some (.bool r37) ∧ ∃ r38 : Bool, rd H47 ((⟨H1.size, 0, none⟩ : Addr).add 5) = some (.bool r38) ∧ ∃ r39 : Bool, rd H47 ((⟨H1.size, 0, none⟩ : Addr).add 6) = some (.bool r39) ∧ ∃ r40 : Int, rd H47 ((⟨H1.size, 0, none⟩ : Addr).add 7) = some (.int .i64 r40) ∧ ∃ r41 : Int, rd H47 ((⟨H1.size, 0, none⟩ : Addr).add 8) = some (.int .i64 r41) ∧ ∃ r42 : Int, rd H47 ((⟨H1.size, 0, none⟩ : Addr).add 9) = some (.int .i64 r42) ∧ ∃ r43 : Sl, rd H47 ((⟨H1.size, 0, none⟩ : Addr).add 10) = some (.slice r43.p r43.n r43.c) ∧ (
  R (.agg #[.int .i64 r33, .int .i64 r34, .int .i64 r35, .int .i64 r36, .bool r37, .bool r38, .bool r39, .int .i64 r40, .int .i64 r41, .int .i64 r42, .slice r43.p r43.n r43.c]) H47))))))))))) (
  ∃ x141 : Int, rd H35 (⟨H3.size, 0, none⟩ : Addr) = some (.int .i64 x141) ∧ ∃ x142 : Int, rd H35 ((⟨H3.size, 0, none⟩ : Addr).add 1) = some (.int .i64 x142) ∧ ∃ x143 : Int, rd H35 ((⟨H3.size, 0, none⟩ : Addr).add 2) = some (.int .i64 x143) ∧ ∃ x144 : Int, rd H35 ((⟨H3.size, 0, none⟩ : Addr).add 3) = some (.int .i64 x144) ∧ ∃ x145 : Bool, rd H35 ((⟨H3.size, 0, none⟩ : Addr).add 4) = some (.bool x145) ∧ ∃ x146 : Bool, rd H35 ((⟨H3.size, 0, none⟩ : Addr).add 5) = some (.bool x146) ∧ ∃ x147 : Bool, rd H35 ((⟨H3.size, 0, none⟩ : Addr).add 6) = some (.bool x147) ∧ ∃ x148 : Int, rd H35 ((⟨H3.size, 0, none⟩ : Addr).add 7) = some (.int .i64 x148) ∧ ∃ x149 : Int, rd H35 ((⟨H3.size, 0, none⟩ : Addr).add 8) = some (.int .i64 x149) ∧ ∃ x150 : Int, rd H35 ((⟨H3.size, 0, none⟩ : Addr).add 9) = some (.int .i64 x150) ∧ ∃ x151 : Sl, rd H35 ((⟨H3.size, 0, none⟩ : Addr).add 10) = some (.slice x151.p x151.n x151.c) ∧ (
  okRow H35 (⟨H1.size, 0, none⟩ : Addr) 11 ∧ (
  letH (wrs H35 (⟨H1.size, 0, none⟩ : Addr) [.int .i64 x141, .int .i64 x142, .int .i64 x143, .int .i64 x144, .bool x145, .bool x146, .bool x147, .int .i64 x148, .int .i64 x149, .int .i64 x150, .slice x151.p x151.n x151.c]) (fun H48 : Heap =>
  ∃ r44 : Int, rd H48 (⟨H1.size, 0, none⟩ : Addr) = some (.int .i64 r44) ∧ ∃ r45 : Int, rd H48 ((⟨H1.size, 0, none⟩ : Addr).add 1) = some (.int .i64 r45) ∧ ∃ r46 : Int, rd H48 ((⟨H1.size, 0, none⟩ : Addr).add 2) = some (.int .i64 r46) ∧ ∃ r47 : Int, rd H48 ((⟨H1.size, 0, none⟩ : Addr).add 3) = some (.int .i64 r47) ∧ ∃ r48 : Bool, rd H48 ((⟨H1.size, 0, none⟩ : Addr).add 4) = some (.bool r48) ∧ ∃ r49 : Bool, rd H48 ((⟨H1.size, 0, none⟩ : Addr).add 5) = some (.bool r49) ∧ ∃ r50 : Bool, rd H48 ((⟨H1.size, 0, none⟩ : Addr).add 6) = some (.bool r50) ∧ ∃ r51 : Int, rd H48 ((⟨H1.size, 0, none⟩ : Addr).add 7) = some (.int .i64 r51) ∧ ∃ r52 : Int, rd H48 ((⟨H1.size, 0, none⟩ : Addr).add 8) = some (.int .i64 r52) ∧ ∃ r53 : Int, rd H48 ((⟨H1.size, 0, none⟩ : Addr).add 9) = some (.int .i64 r53) ∧ ∃ r54 : Sl, rd H48 ((⟨H1.size, 0, none⟩ : Addr).add 10) = some (.slice r54.p r54.n r54.c) ∧ (
  R (.agg #[.int .i64 r44, .int .i64 r45, .int .i64 r46, .int .i64 r47, .bool r48, .bool r49, .bool r50, .int .i64 r51, .int .i64 r52, .int .i64 r53, .slice r54.p r54.n r54.c]) H48))))))

def F_law18_some_k6 (R : Value → Heap → Prop) (H : Heap) (H1 : Heap) (H3 : Heap) (H34 : Heap) : Prop :=
  ∃ I_1 : Int → Heap → Prop, ∃ M_1 : Int → Heap → Nat, I_1 (0 : Int) H34 ∧ (∀ i4 : Int, ∀ H35 : Heap, I_1 i4 H35 → F_law18_some_r5 R H H1 H3 I_1 M_1 i4 H35)

def F_law18_some (R : Value → Heap → Prop) (f_0 : Int) (f_1 : Int) (f_2 : Int) (f_3 : Int) (f_4 : Bool) (f_5 : Bool) (f_6 : Bool) (f_7 : Int) (f_8 : Int) (f_9 : Int) (f_10 : Sl) (H : Heap) : Prop :=
  letH (H.push (.cells #[.int .i64 f_0, .int .i64 f_1, .int .i64 f_2, .int .i64 f_3, .bool f_4, .bool f_5, .bool f_6, .int .i64 f_7, .int .i64 f_8, .int .i64 f_9, .slice f_10.p f_10.n f_10.c] t_api_Function (0, 0))) (fun H1 : Heap =>
  letH (H1.push (.cells #[.int .i64 (0 : Int), .int .i64 (0 : Int), .int .i64 (0 : Int), .int .i64 (0 : Int), .bool false, .bool false, .bool false, .int .i64 (0 : Int), .int .i64 (0 : Int), .int .i64 (0 : Int), .slice none 0 0] t_api_Function (0, 0))) (fun H2 : Heap =>
  ∃ x : Int, rd H2 ((⟨H.size, 0, none⟩ : Addr).add 1) = some (.int .i64 x) ∧ (
  CallsH Try.prog n_help_Mod #[.int .i64 x, .int .i64 (9 : Int)] H2 (fun v H3 =>
  ∃ x1 : Int, v = .int .i64 x1 ∧ (
  iteB (x1 == (8 : Int)) (
  ∃ x2 : Int, rd H3 (⟨H.size, 0, none⟩ : Addr) = some (.int .i64 x2) ∧ ∃ x3 : Int, rd H3 ((⟨H.size, 0, none⟩ : Addr).add 1) = some (.int .i64 x3) ∧ ∃ x4 : Int, rd H3 ((⟨H.size, 0, none⟩ : Addr).add 2) = some (.int .i64 x4) ∧ ∃ x5 : Int, rd H3 ((⟨H.size, 0, none⟩ : Addr).add 3) = some (.int .i64 x5) ∧ ∃ x6 : Bool, rd H3 ((⟨H.size, 0, none⟩ : Addr).add 4) = some (.bool x6) ∧ ∃ x7 : Bool, rd H3 ((⟨H.size, 0, none⟩ : Addr).add 5) = some (.bool x7) ∧ ∃ x8 : Bool, rd H3 ((⟨H.size, 0, none⟩ : Addr).add 6) = some (.bool x8) ∧ ∃ x9 : Int, rd H3 ((⟨H.size, 0, none⟩ : Addr).add 7) = some (.int .i64 x9) ∧ ∃ x10 : Int, rd H3 ((⟨H.size, 0, none⟩ : Addr).add 8) = some (.int .i64 x10) ∧ ∃ x11 : Int, rd H3 ((⟨H.size, 0, none⟩ : Addr).add 9) = some (.int .i64 x11) ∧ ∃ x12 : Sl, rd H3 ((⟨H.size, 0, none⟩ : Addr).add 10) = some (.slice x12.p x12.n x12.c) ∧ (
  okRow H3 (⟨H1.size, 0, none⟩ : Addr) 11 ∧ (
  letH (wrs H3 (⟨H1.size, 0, none⟩ : Addr) [.int .i64 x2, .int .i64 x3, .int .i64 x4, .int .i64 x5, .bool x6, .bool x7, .bool x8, .int .i64 x9, .int .i64 x10, .int .i64 x11, .slice x12.p x12.n x12.c]) (fun H4 : Heap =>
  ∃ r : Int, rd H4 (⟨H1.size, 0, none⟩ : Addr) = some (.int .i64 r) ∧ ∃ r1 : Int, rd H4 ((⟨H1.size, 0, none⟩ : Addr).add 1) = some (.int .i64 r1) ∧ ∃ r2 : Int, rd H4 ((⟨H1.size, 0, none⟩ : Addr).add 2) = some (.int .i64 r2) ∧ ∃ r3 : Int, rd H4 ((⟨H1.size, 0, none⟩ : Addr).add 3) = some (.int .i64 r3) ∧ ∃ r4 : Bool, rd H4 ((⟨H1.size, 0, none⟩ : Addr).add 4) = some (.bool r4) ∧ ∃ r5 : Bool, rd H4 ((⟨H1.size, 0, none⟩ : Addr).add 5) = some (.bool r5) ∧ ∃ r6 : Bool, rd H4 ((⟨H1.size, 0, none⟩ : Addr).add 6) = some (.bool r6) ∧ ∃ r7 : Int, rd H4 ((⟨H1.size, 0, none⟩ : Addr).add 7) = some (.int .i64 r7) ∧ ∃ r8 : Int, rd H4 ((⟨H1.size, 0, none⟩ : Addr).add 8) = some (.int .i64 r8) ∧ ∃ r9 : Int, rd H4 ((⟨H1.size, 0, none⟩ : Addr).add 9) = some (.int .i64 r9) ∧ ∃ r10 : Sl, rd H4 ((⟨H1.size, 0, none⟩ : Addr).add 10) = some (.slice r10.p r10.n r10.c) ∧ (
  R (.agg #[.int .i64 r, .int .i64 r1, .int .i64 r2, .int .i64 r3, .bool r4, .bool r5, .bool r6, .int .i64 r7, .int .i64 r8, .int .i64 r9, .slice r10.p r10.n r10.c]) H4))))) (
  ∃ x13 : Int, rd H3 ((⟨H.size, 0, none⟩ : Addr).add 1) = some (.int .i64 x13) ∧ (
  CallsP Try.prog n_help_Mod #[.int .i64 x13, .int .i64 (32 : Int)] (fun v1 =>
  ∃ x14 : Int, v1 = .int .i64 x14 ∧ (
  ∃ x15 : Int, rd H3 ((⟨H.size, 0, none⟩ : Addr).add 2) = some (.int .i64 x15) ∧ (
  CallsP Try.prog n_help_Mod #[.int .i64 x15, .int .i64 (65534 : Int)] (fun v2 =>
  ∃ x16 : Int, v2 = .int .i64 x16 ∧ (
  ∃ x17 : Int, rd H3 ((⟨H.size, 0, none⟩ : Addr).add 3) = some (.int .i64 x17) ∧ (
  CallsP Try.prog n_help_Mod #[.int .i64 x17, .int .i64 (65536 : Int)] (fun v3 =>
  ∃ x18 : Int, v3 = .int .i64 x18 ∧ (
  ∃ x19 : Bool, rd H3 ((⟨H.size, 0, none⟩ : Addr).add 4) = some (.bool x19) ∧ (
  ∃ x20 : Int, rd H3 ((⟨H.size, 0, none⟩ : Addr).add 8) = some (.int .i64 x20) ∧ (
  CallsP Try.prog n_help_Mod #[.int .i64 x20, .int .i64 (5 : Int)] (fun v4 =>
  ∃ x21 : Int, v4 = .int .i64 x21 ∧ (
  ∃ x22 : Int, rd H3 ((⟨H.size, 0, none⟩ : Addr).add 9) = some (.int .i64 x22) ∧ (
  CallsP Try.prog n_help_Mod #[.int .i64 x22, .int .i64 (5 : Int)] (fun v5 =>
  ∃ x23 : Int, v5 = .int .i64 x23 ∧ (
  (
  letH (H3.push (.cells #[.int .i64 (0 : Int), .int .i64 (1 : Int), .int .i64 (2 : Int), .int .i64 (4 : Int), .int .i64 (32 : Int)] t_int (0, 0))) (fun H5 : Heap =>
  Keeps H3 H5 [(((⟨H.size, 0, none⟩ : Addr).add 1), 1), (((⟨H.size, 0, none⟩ : Addr).add 2), 1), (((⟨H.size, 0, none⟩ : Addr).add 3), 1), (((⟨H.size, 0, none⟩ : Addr).add 4), 1), (((⟨H.size, 0, none⟩ : Addr).add 8), 1), (((⟨H.size, 0, none⟩ : Addr).add 9), 1)] ∧ (
  0 ≤ x23 ∧ x23 < (5 : Int) ∧ (∃ x24 : Int, rd H5 ((⟨H3.size, 0, none⟩ : Addr).add (x23.toNat * 1)) = some (.int .i64 x24) ∧ (
  letH (H5.push (.cells #[.int .i64 (0 : Int), .int .i64 (0 : Int), .int .i64 (0 : Int), .int .i64 (0 : Int), .bool false, .bool false, .bool false, .int .i64 (0 : Int), .int .i64 (0 : Int), .int .i64 (0 : Int), .slice none 0 0] t_api_Function (0, 0))) (fun H6 : Heap =>
  Keeps H5 H6 [(((⟨H.size, 0, none⟩ : Addr).add 1), 1), (((⟨H.size, 0, none⟩ : Addr).add 2), 1), (((⟨H.size, 0, none⟩ : Addr).add 3), 1), (((⟨H.size, 0, none⟩ : Addr).add 4), 1), (((⟨H.size, 0, none⟩ : Addr).add 8), 1), (((⟨H.size, 0, none⟩ : Addr).add 9), 1), (((⟨H3.size, 0, none⟩ : Addr).add (x23.toNat * 1)), 1)] ∧ (
  okRow H6 (⟨H5.size, 0, none⟩ : Addr) 11 ∧ (
  letH (wrs H6 (⟨H5.size, 0, none⟩ : Addr) [.int .i64 (0 : Int), .int .i64 x14, .int .i64 (IntKind.i64.wrap ((1 : Int) + x16)), .int .i64 x18, .bool x19, .bool false, .bool false, .int .i64 (0 : Int), .int .i64 x21, .int .i64 x24, .slice none 0 0]) (fun H7 : Heap =>
  ∃ J_ : Heap → Prop, (
  ∃ x25 : Bool, rd H7 ((⟨H.size, 0, none⟩ : Addr).add 4) = some (.bool x25) ∧ (
  iteB x25 (
  ∃ x26 : Bool, rd H7 ((⟨H.size, 0, none⟩ : Addr).add 5) = some (.bool x26) ∧ (
  ∃ x27 : Bool, rd H7 ((⟨H.size, 0, none⟩ : Addr).add 6) = some (.bool x27) ∧ (
  okRow H7 ((⟨H5.size, 0, none⟩ : Addr).add 5) 1 ∧ (
  letH (wrs H7 ((⟨H5.size, 0, none⟩ : Addr).add 5) [.bool x26]) (fun H8 : Heap =>
  Keeps H7 H8 [(((⟨H.size, 0, none⟩ : Addr).add 6), 1)] ∧ (
  okRow H8 ((⟨H5.size, 0, none⟩ : Addr).add 6) 1 ∧ (
  letH (wrs H8 ((⟨H5.size, 0, none⟩ : Addr).add 6) [.bool x27]) (fun H9 : Heap =>
  ∃ x28 : Bool, rd H9 ((⟨H.size, 0, none⟩ : Addr).add 6) = some (.bool x28) ∧ (
  iteB x28 (
  ∃ x29 : Int, rd H9 ((⟨H.size, 0, none⟩ : Addr).add 7) = some (.int .i64 x29) ∧ (
  CallsH Try.prog n_help_Mod #[.int .i64 x29, .int .i64 (33 : Int)] H9 (fun v6 H10 =>
  ∃ x30 : Int, v6 = .int .i64 x30 ∧ (
  okRow H10 ((⟨H5.size, 0, none⟩ : Addr).add 7) 1 ∧ (
  letH (wrs H10 ((⟨H5.size, 0, none⟩ : Addr).add 7) [.int .i64 x30]) (fun H11 : Heap =>
  J_ H11)))))) (
  J_ H9)))))))))) (
  J_ H7))) ∧ (∀ H12 : Heap, J_ H12 → F_law18_some_k3 R H H1 H5 H12)))))))))) ∧ (
  letH (H3.push (.cells #[.int .i64 (0 : Int), .int .i64 (0 : Int), .int .i64 (0 : Int), .int .i64 (0 : Int), .bool false, .bool false, .bool false, .int .i64 (0 : Int), .int .i64 (0 : Int), .int .i64 (0 : Int), .slice none 0 0] t_api_Function (0, 0))) (fun H27 : Heap =>
  Keeps H3 H27 [(((⟨H.size, 0, none⟩ : Addr).add 1), 1), (((⟨H.size, 0, none⟩ : Addr).add 2), 1), (((⟨H.size, 0, none⟩ : Addr).add 3), 1), (((⟨H.size, 0, none⟩ : Addr).add 4), 1), (((⟨H.size, 0, none⟩ : Addr).add 8), 1), (((⟨H.size, 0, none⟩ : Addr).add 9), 1)] ∧ (
  letH (H27.push (.cells #[.int .i64 (0 : Int), .int .i64 (1 : Int), .int .i64 (2 : Int), .int .i64 (4 : Int), .int .i64 (32 : Int)] t_int (0, 0))) (fun H28 : Heap =>
  Keeps H27 H28 [(((⟨H.size, 0, none⟩ : Addr).add 1), 1), (((⟨H.size, 0, none⟩ : Addr).add 2), 1), (((⟨H.size, 0, none⟩ : Addr).add 3), 1), (((⟨H.size, 0, none⟩ : Addr).add 4), 1), (((⟨H.size, 0, none⟩ : Addr).add 8), 1), (((⟨H.size, 0, none⟩ : Addr).add 9), 1)] ∧ (
  0 ≤ x23 ∧ x23 < (5 : Int) ∧ (∃ x88 : Int, rd H28 ((⟨H27.size, 0, none⟩ : Addr).add (x23.toNat * 1)) = some (.int .i64 x88) ∧ (
  okRow H28 (⟨H3.size, 0, none⟩ : Addr) 11 ∧ (
  letH (wrs H28 (⟨H3.size, 0, none⟩ : Addr) [.int .i64 (0 : Int), .int .i64 x14, .int .i64 (IntKind.i64.wrap ((1 : Int) + x16)), .int .i64 x18, .bool x19, .bool false, .bool false, .int .i64 (0 : Int), .int .i64 x21, .int .i64 x88, .slice none 0 0]) (fun H29 : Heap =>
  ∃ J_2 : Heap → Prop, (
  ∃ x89 : Bool, rd H29 ((⟨H.size, 0, none⟩ : Addr).add 4) = some (.bool x89) ∧ (
  iteB x89 (
  ∃ x90 : Bool, rd H29 ((⟨H.size, 0, none⟩ : Addr).add 5) = some (.bool x90) ∧ (
  ∃ x91 : Bool, rd H29 ((⟨H.size, 0, none⟩ : Addr).add 6) = some (.bool x91) ∧ (
  okRow H29 ((⟨H3.size, 0, none⟩ : Addr).add 5) 1 ∧ (
  letH (wrs H29 ((⟨H3.size, 0, none⟩ : Addr).add 5) [.bool x90]) (fun H30 : Heap =>
  Keeps H29 H30 [(((⟨H.size, 0, none⟩ : Addr).add 6), 1)] ∧ (
  okRow H30 ((⟨H3.size, 0, none⟩ : Addr).add 6) 1 ∧ (
  letH (wrs H30 ((⟨H3.size, 0, none⟩ : Addr).add 6) [.bool x91]) (fun H31 : Heap =>
  ∃ x92 : Bool, rd H31 ((⟨H.size, 0, none⟩ : Addr).add 6) = some (.bool x92) ∧ (
  iteB x92 (
  ∃ x93 : Int, rd H31 ((⟨H.size, 0, none⟩ : Addr).add 7) = some (.int .i64 x93) ∧ (
  CallsH Try.prog n_help_Mod #[.int .i64 x93, .int .i64 (33 : Int)] H31 (fun v13 H32 =>
  ∃ x94 : Int, v13 = .int .i64 x94 ∧ (
  okRow H32 ((⟨H3.size, 0, none⟩ : Addr).add 7) 1 ∧ (
  letH (wrs H32 ((⟨H3.size, 0, none⟩ : Addr).add 7) [.int .i64 x94]) (fun H33 : Heap =>
  J_2 H33)))))) (
  J_2 H31)))))))))) (
  J_2 H29))) ∧ (∀ H34 : Heap, J_2 H34 → F_law18_some_k6 R H H1 H3 H34))))))))))))))))))))))))))))))))

theorem F_law18_some_eq (R : Value → Heap → Prop) (f_0 : Int) (f_1 : Int) (f_2 : Int) (f_3 : Int) (f_4 : Bool) (f_5 : Bool) (f_6 : Bool) (f_7 : Int) (f_8 : Int) (f_9 : Int) (f_10 : Sl) (H : Heap) : wpF Try.prog Try.f10 [(4, .int .i64 0), (6, .int .i64 0)] [(8, [], [1, 2, 3]), (21, [6], [1, 2, 3, 4, 5])] [(9, [4], [1, 2, 3])] [19] [.agg #[.int .i64 f_0, .int .i64 f_1, .int .i64 f_2, .int .i64 f_3, .bool f_4, .bool f_5, .bool f_6, .int .i64 f_7, .int .i64 f_8, .int .i64 f_9, .slice f_10.p f_10.n f_10.c]] H R = F_law18_some R f_0 f_1 f_2 f_3 f_4 f_5 f_6 f_7 f_8 f_9 f_10 H := by kernel_rfl

theorem F_law18_some_ok {R : Value → Heap → Prop} (f_0 : Int) (f_1 : Int) (f_2 : Int) (f_3 : Int) (f_4 : Bool) (f_5 : Bool) (f_6 : Bool) (f_7 : Int) (f_8 : Int) (f_9 : Int) (f_10 : Sl) {H : Heap} (h : F_law18_some R f_0 f_1 f_2 f_3 f_4 f_5 f_6 f_7 f_8 f_9 f_10 H) : CallsH Try.prog n_law18_some #[.agg #[.int .i64 f_0, .int .i64 f_1, .int .i64 f_2, .int .i64 f_3, .bool f_4, .bool f_5, .bool f_6, .int .i64 f_7, .int .i64 f_8, .int .i64 f_9, .slice f_10.p f_10.n f_10.c]] H R :=
  wpF_ok Try.func10 (F_law18_some_eq R f_0 f_1 f_2 f_3 f_4 f_5 f_6 f_7 f_8 f_9 f_10 H) h

/-! ### 11: platformfw/platformfwlaw18.awake -/

def F_law18_awake (R : Value → Heap → Prop)  (H : Heap) : Prop :=
  letH (H.push (.cells #[.int .i64 (2 : Int), .int .i64 (12 : Int)] t_api_Bar (0, 0))) (fun H1 : Heap =>
  letH (H1.push (.cells #[.int .i64 (0 : Int), .int .i64 (0 : Int), .int .i64 (0 : Int), .int .i64 (0 : Int), .bool false, .bool false, .bool false, .int .i64 (0 : Int), .int .i64 (0 : Int), .int .i64 (0 : Int), .slice none 0 0] t_api_Function (0, 0))) (fun H2 : Heap =>
  okRow H2 (⟨H1.size, 0, none⟩ : Addr) 11 ∧ (
  letH (wrs H2 (⟨H1.size, 0, none⟩ : Addr) [.int .i64 (0 : Int), .int .i64 (0 : Int), .int .i64 (1 : Int), .int .i64 (0 : Int), .bool false, .bool false, .bool false, .int .i64 (0 : Int), .int .i64 (0 : Int), .int .i64 (0 : Int), .slice (some (⟨H.size, 0, none⟩ : Addr)) 1 1]) (fun H3 : Heap =>
  ∃ x : Int, rd H3 (⟨H1.size, 0, none⟩ : Addr) = some (.int .i64 x) ∧ ∃ x1 : Int, rd H3 ((⟨H1.size, 0, none⟩ : Addr).add 1) = some (.int .i64 x1) ∧ ∃ x2 : Int, rd H3 ((⟨H1.size, 0, none⟩ : Addr).add 2) = some (.int .i64 x2) ∧ ∃ x3 : Int, rd H3 ((⟨H1.size, 0, none⟩ : Addr).add 3) = some (.int .i64 x3) ∧ ∃ x4 : Bool, rd H3 ((⟨H1.size, 0, none⟩ : Addr).add 4) = some (.bool x4) ∧ ∃ x5 : Bool, rd H3 ((⟨H1.size, 0, none⟩ : Addr).add 5) = some (.bool x5) ∧ ∃ x6 : Bool, rd H3 ((⟨H1.size, 0, none⟩ : Addr).add 6) = some (.bool x6) ∧ ∃ x7 : Int, rd H3 ((⟨H1.size, 0, none⟩ : Addr).add 7) = some (.int .i64 x7) ∧ ∃ x8 : Int, rd H3 ((⟨H1.size, 0, none⟩ : Addr).add 8) = some (.int .i64 x8) ∧ ∃ x9 : Int, rd H3 ((⟨H1.size, 0, none⟩ : Addr).add 9) = some (.int .i64 x9) ∧ ∃ x10 : Sl, rd H3 ((⟨H1.size, 0, none⟩ : Addr).add 10) = some (.slice x10.p x10.n x10.c) ∧ (
  CallsH Try.prog n_pciconf_New #[.agg #[.int .i64 x, .int .i64 x1, .int .i64 x2, .int .i64 x3, .bool x4, .bool x5, .bool x6, .int .i64 x7, .int .i64 x8, .int .i64 x9, .slice x10.p x10.n x10.c]] H3 (fun v H4 =>
  ∃ x11 : Option Addr, ∃ x12 : Int, v = .tuple #[.pointer x11, .int .i64 x12] ∧ (
  iteB (x12 != (0 : Int)) (
  R (.bool false) H4) (
  iteB x11.isNone (
  R (.bool false) H4) (
  CallsH Try.prog n_pciconf_Device_Write #[.pointer x11, .int .i64 (16 : Int), .int .i64 (4 : Int), .int .u64 (4294967295 : Int)] H4 (fun v1 H5 =>
  v1 = .tuple #[] ∧ (
  ∃ x13 : Int, rd H5 (⟨H1.size, 0, none⟩ : Addr) = some (.int .i64 x13) ∧ ∃ x14 : Int, rd H5 ((⟨H1.size, 0, none⟩ : Addr).add 1) = some (.int .i64 x14) ∧ ∃ x15 : Int, rd H5 ((⟨H1.size, 0, none⟩ : Addr).add 2) = some (.int .i64 x15) ∧ ∃ x16 : Int, rd H5 ((⟨H1.size, 0, none⟩ : Addr).add 3) = some (.int .i64 x16) ∧ ∃ x17 : Bool, rd H5 ((⟨H1.size, 0, none⟩ : Addr).add 4) = some (.bool x17) ∧ ∃ x18 : Bool, rd H5 ((⟨H1.size, 0, none⟩ : Addr).add 5) = some (.bool x18) ∧ ∃ x19 : Bool, rd H5 ((⟨H1.size, 0, none⟩ : Addr).add 6) = some (.bool x19) ∧ ∃ x20 : Int, rd H5 ((⟨H1.size, 0, none⟩ : Addr).add 7) = some (.int .i64 x20) ∧ ∃ x21 : Int, rd H5 ((⟨H1.size, 0, none⟩ : Addr).add 8) = some (.int .i64 x21) ∧ ∃ x22 : Int, rd H5 ((⟨H1.size, 0, none⟩ : Addr).add 9) = some (.int .i64 x22) ∧ ∃ x23 : Sl, rd H5 ((⟨H1.size, 0, none⟩ : Addr).add 10) = some (.slice x23.p x23.n x23.c) ∧ (
  CallsH Try.prog n_pciconf_Valid #[.agg #[.int .i64 x13, .int .i64 x14, .int .i64 x15, .int .i64 x16, .bool x17, .bool x18, .bool x19, .int .i64 x20, .int .i64 x21, .int .i64 x22, .slice x23.p x23.n x23.c]] H5 (fun v2 H6 =>
  ∃ x24 : Bool, v2 = .bool x24 ∧ (
  iteB x24 (
  CallsH Try.prog n_pciconf_Device_Read #[.pointer x11, .int .i64 (16 : Int), .int .i64 (4 : Int)] H6 (fun v3 H7 =>
  ∃ x25 : Int, v3 = .int .u64 x25 ∧ (
  iteB (x25 == (4294963200 : Int)) (
  CallsH Try.prog n_pciconf_Device_Read #[.pointer x11, .int .i64 (0 : Int), .int .i64 (2 : Int)] H7 (fun v4 H8 =>
  ∃ x26 : Int, v4 = .int .u64 x26 ∧ (
  R (.bool (x26 == (1 : Int))) H8))) (
  R (.bool false) H7)))) (
  R (.bool false) H6)))))))))))))))

theorem F_law18_awake_eq (R : Value → Heap → Prop)  (H : Heap) : wpF Try.prog Try.f11 [] [] [] [19] [] H R = F_law18_awake R  H := by kernel_rfl

theorem F_law18_awake_ok {R : Value → Heap → Prop}  {H : Heap} (h : F_law18_awake R  H) : CallsH Try.prog n_law18_awake #[] H R :=
  wpF_ok Try.func11 (F_law18_awake_eq R  H) h

/-! ### 12: platformfw/platformfwref18.NewDevice -/

def F_ref18_NewDevice_k1 (I_ : Int → Heap → Prop) (M_ : Int → Heap → Nat) (i : Int) (H8 : Heap) (H10 : Heap) (H17 : Heap) : Prop :=
  ∃ x41 : Int, rd H17 (⟨H10.size, 0, none⟩ : Addr) = some (.int .i64 x41) ∧ ∃ x42 : Int, rd H17 ((⟨H10.size, 0, none⟩ : Addr).add 1) = some (.int .i64 x42) ∧ (
  CallsH Try.prog n_ref18_wide #[.agg #[.int .i64 x41, .int .i64 x42]] H17 (fun v11 H18 =>
  ∃ x43 : Bool, v11 = .bool x43 ∧ (
  iteB x43 (
  letV (IntKind.i64.wrap (i + (1 : Int))) (fun i1 : Int =>
  letV (IntKind.i64.wrap (i1 + (1 : Int))) (fun i2 : Int =>
  I_ i2 H18 ∧ M_ i2 H18 < M_ i H8))) (
  letV (IntKind.i64.wrap (i + (1 : Int))) (fun i3 : Int =>
  I_ i3 H18 ∧ M_ i3 H18 < M_ i H8)))))

def F_ref18_NewDevice_k2 (R : Value → Heap → Prop) (H : Heap) (H1 : Heap) (H23 : Heap) : Prop :=
  ∃ x45 : Bool, rd H23 ((⟨H.size, 0, none⟩ : Addr).add 5) = some (.bool x45) ∧ (
  iteB x45 (
  CallsH Try.prog n_ref18_Device_set #[.pointer (some (⟨H1.size, 0, none⟩ : Addr)), .int .i64 (36 : Int), .int .i64 (4 : Int), .int .u64 (65537 : Int), .int .u64 (4293984240 : Int)] H23 (fun v16 H24 =>
  v16 = .tuple #[] ∧ (
  CallsH Try.prog n_ref18_Device_set #[.pointer (some (⟨H1.size, 0, none⟩ : Addr)), .int .i64 (40 : Int), .int .i64 (8 : Int), .int .u64 (0 : Int), .int .u64 (18446744073709551615 : Int)] H24 (fun v17 H25 =>
  v17 = .tuple #[] ∧ (
  R (.pointer (some (⟨H1.size, 0, none⟩ : Addr))) H25))))) (
  R (.pointer (some (⟨H1.size, 0, none⟩ : Addr))) H23))

def F_ref18_NewDevice_r3 (R : Value → Heap → Prop) (H : Heap) (H1 : Heap) (I_ : Int → Heap → Prop) (M_ : Int → Heap → Nat) (i : Int) (H8 : Heap) : Prop :=
  ∃ x14 : Int, rd H8 (⟨H.size, 0, none⟩ : Addr) = some (.int .i64 x14) ∧ ∃ x15 : Int, rd H8 ((⟨H.size, 0, none⟩ : Addr).add 1) = some (.int .i64 x15) ∧ ∃ x16 : Int, rd H8 ((⟨H.size, 0, none⟩ : Addr).add 2) = some (.int .i64 x16) ∧ ∃ x17 : Int, rd H8 ((⟨H.size, 0, none⟩ : Addr).add 3) = some (.int .i64 x17) ∧ ∃ x18 : Bool, rd H8 ((⟨H.size, 0, none⟩ : Addr).add 4) = some (.bool x18) ∧ ∃ x19 : Bool, rd H8 ((⟨H.size, 0, none⟩ : Addr).add 5) = some (.bool x19) ∧ ∃ x20 : Bool, rd H8 ((⟨H.size, 0, none⟩ : Addr).add 6) = some (.bool x20) ∧ ∃ x21 : Int, rd H8 ((⟨H.size, 0, none⟩ : Addr).add 7) = some (.int .i64 x21) ∧ ∃ x22 : Int, rd H8 ((⟨H.size, 0, none⟩ : Addr).add 8) = some (.int .i64 x22) ∧ ∃ x23 : Int, rd H8 ((⟨H.size, 0, none⟩ : Addr).add 9) = some (.int .i64 x23) ∧ ∃ x24 : Sl, rd H8 ((⟨H.size, 0, none⟩ : Addr).add 10) = some (.slice x24.p x24.n x24.c) ∧ (
  CallsH Try.prog n_ref18_Registers #[.agg #[.int .i64 x14, .int .i64 x15, .int .i64 x16, .int .i64 x17, .bool x18, .bool x19, .bool x20, .int .i64 x21, .int .i64 x22, .int .i64 x23, .slice x24.p x24.n x24.c]] H8 (fun v5 H9 =>
  ∃ x25 : Int, v5 = .int .i64 x25 ∧ (
  iteB (decide (i < x25)) (
  ∃ x26 : Int, rd H9 (⟨H.size, 0, none⟩ : Addr) = some (.int .i64 x26) ∧ ∃ x27 : Int, rd H9 ((⟨H.size, 0, none⟩ : Addr).add 1) = some (.int .i64 x27) ∧ ∃ x28 : Int, rd H9 ((⟨H.size, 0, none⟩ : Addr).add 2) = some (.int .i64 x28) ∧ ∃ x29 : Int, rd H9 ((⟨H.size, 0, none⟩ : Addr).add 3) = some (.int .i64 x29) ∧ ∃ x30 : Bool, rd H9 ((⟨H.size, 0, none⟩ : Addr).add 4) = some (.bool x30) ∧ ∃ x31 : Bool, rd H9 ((⟨H.size, 0, none⟩ : Addr).add 5) = some (.bool x31) ∧ ∃ x32 : Bool, rd H9 ((⟨H.size, 0, none⟩ : Addr).add 6) = some (.bool x32) ∧ ∃ x33 : Int, rd H9 ((⟨H.size, 0, none⟩ : Addr).add 7) = some (.int .i64 x33) ∧ ∃ x34 : Int, rd H9 ((⟨H.size, 0, none⟩ : Addr).add 8) = some (.int .i64 x34) ∧ ∃ x35 : Int, rd H9 ((⟨H.size, 0, none⟩ : Addr).add 9) = some (.int .i64 x35) ∧ ∃ x36 : Sl, rd H9 ((⟨H.size, 0, none⟩ : Addr).add 10) = some (.slice x36.p x36.n x36.c) ∧ (
  CallsH Try.prog n_ref18_bar #[.agg #[.int .i64 x26, .int .i64 x27, .int .i64 x28, .int .i64 x29, .bool x30, .bool x31, .bool x32, .int .i64 x33, .int .i64 x34, .int .i64 x35, .slice x36.p x36.n x36.c], .int .i64 i] H9 (fun v6 H10 =>
  ∃ x37 : Int, ∃ x38 : Int, v6 = .agg #[.int .i64 x37, .int .i64 x38] ∧ (
  letH (H10.push (.cells #[.int .i64 (0 : Int), .int .i64 (0 : Int)] t_api_Bar (0, 0))) (fun H11 : Heap =>
  okRow H11 (⟨H10.size, 0, none⟩ : Addr) 2 ∧ (
  letH (wrs H11 (⟨H10.size, 0, none⟩ : Addr) [.int .i64 x37, .int .i64 x38]) (fun H12 : Heap =>
  ∃ x39 : Int, rd H12 ((⟨H10.size, 0, none⟩ : Addr).add 1) = some (.int .i64 x39) ∧ (
  0 ≤ (IntKind.u64.wrap x39) ∧ (
  letV (IntKind.u64.wrap ((18446744073709551615 : Int) * 2 ^ (min (IntKind.u64.wrap x39).toNat IntKind.u64.bits))) (fun keep : Int =>
  letV (IntKind.i64.wrap ((16 : Int) + (IntKind.i64.wrap ((4 : Int) * i)))) (fun atv : Int =>
  ∃ J_ : Heap → Prop, (
  ∃ x40 : Int, rd H12 (⟨H10.size, 0, none⟩ : Addr) = some (.int .i64 x40) ∧ (
  iteB (x40 == (1 : Int)) (
  CallsH Try.prog n_ref18_Device_set #[.pointer (some (⟨H1.size, 0, none⟩ : Addr)), .int .i64 atv, .int .i64 (4 : Int), .int .u64 (1 : Int), .int .u64 keep] H12 (fun v7 H13 =>
  v7 = .tuple #[] ∧ (
  J_ H13))) (
  iteB (x40 == (2 : Int)) (
  CallsH Try.prog n_ref18_Device_set #[.pointer (some (⟨H1.size, 0, none⟩ : Addr)), .int .i64 atv, .int .i64 (4 : Int), .int .u64 (0 : Int), .int .u64 keep] H12 (fun v8 H14 =>
  v8 = .tuple #[] ∧ (
  J_ H14))) (
  iteB (x40 == (3 : Int)) (
  CallsH Try.prog n_ref18_Device_set #[.pointer (some (⟨H1.size, 0, none⟩ : Addr)), .int .i64 atv, .int .i64 (8 : Int), .int .u64 (4 : Int), .int .u64 keep] H12 (fun v9 H15 =>
  v9 = .tuple #[] ∧ (
  J_ H15))) (
  iteB (x40 == (4 : Int)) (
  CallsH Try.prog n_ref18_Device_set #[.pointer (some (⟨H1.size, 0, none⟩ : Addr)), .int .i64 atv, .int .i64 (8 : Int), .int .u64 (12 : Int), .int .u64 keep] H12 (fun v10 H16 =>
  v10 = .tuple #[] ∧ (
  J_ H16))) (
  J_ H12)))))) ∧ (∀ H17 : Heap, J_ H17 → F_ref18_NewDevice_k1 I_ M_ i H8 H10 H17)))))))))))) (
  ∃ J_1 : Heap → Prop, (
  ∃ x44 : Bool, rd H9 ((⟨H.size, 0, none⟩ : Addr).add 4) = some (.bool x44) ∧ (
  iteB x44 (
  CallsH Try.prog n_ref18_Device_set #[.pointer (some (⟨H1.size, 0, none⟩ : Addr)), .int .i64 (14 : Int), .int .i64 (1 : Int), .int .u64 (1 : Int), .int .u64 (0 : Int)] H9 (fun v12 H19 =>
  v12 = .tuple #[] ∧ (
  CallsH Try.prog n_ref18_Device_set #[.pointer (some (⟨H1.size, 0, none⟩ : Addr)), .int .i64 (24 : Int), .int .i64 (3 : Int), .int .u64 (0 : Int), .int .u64 (16777215 : Int)] H19 (fun v13 H20 =>
  v13 = .tuple #[] ∧ (
  CallsH Try.prog n_ref18_Device_set #[.pointer (some (⟨H1.size, 0, none⟩ : Addr)), .int .i64 (28 : Int), .int .i64 (2 : Int), .int .u64 (0 : Int), .int .u64 (61680 : Int)] H20 (fun v14 H21 =>
  v14 = .tuple #[] ∧ (
  CallsH Try.prog n_ref18_Device_set #[.pointer (some (⟨H1.size, 0, none⟩ : Addr)), .int .i64 (32 : Int), .int .i64 (4 : Int), .int .u64 (0 : Int), .int .u64 (4293984240 : Int)] H21 (fun v15 H22 =>
  v15 = .tuple #[] ∧ (
  J_1 H22))))))))) (
  J_1 H9))) ∧ (∀ H23 : Heap, J_1 H23 → F_ref18_NewDevice_k2 R H H1 H23)))))

def F_ref18_NewDevice (R : Value → Heap → Prop) (f_0 : Int) (f_1 : Int) (f_2 : Int) (f_3 : Int) (f_4 : Bool) (f_5 : Bool) (f_6 : Bool) (f_7 : Int) (f_8 : Int) (f_9 : Int) (f_10 : Sl) (H : Heap) : Prop :=
  letH (H.push (.cells #[.int .i64 f_0, .int .i64 f_1, .int .i64 f_2, .int .i64 f_3, .bool f_4, .bool f_5, .bool f_6, .int .i64 f_7, .int .i64 f_8, .int .i64 f_9, .slice f_10.p f_10.n f_10.c] t_api_Function (0, 0))) (fun H1 : Heap =>
  ∃ x : Int, rd H1 (⟨H.size, 0, none⟩ : Addr) = some (.int .i64 x) ∧ ∃ x1 : Int, rd H1 ((⟨H.size, 0, none⟩ : Addr).add 1) = some (.int .i64 x1) ∧ ∃ x2 : Int, rd H1 ((⟨H.size, 0, none⟩ : Addr).add 2) = some (.int .i64 x2) ∧ ∃ x3 : Int, rd H1 ((⟨H.size, 0, none⟩ : Addr).add 3) = some (.int .i64 x3) ∧ ∃ x4 : Bool, rd H1 ((⟨H.size, 0, none⟩ : Addr).add 4) = some (.bool x4) ∧ ∃ x5 : Bool, rd H1 ((⟨H.size, 0, none⟩ : Addr).add 5) = some (.bool x5) ∧ ∃ x6 : Bool, rd H1 ((⟨H.size, 0, none⟩ : Addr).add 6) = some (.bool x6) ∧ ∃ x7 : Int, rd H1 ((⟨H.size, 0, none⟩ : Addr).add 7) = some (.int .i64 x7) ∧ ∃ x8 : Int, rd H1 ((⟨H.size, 0, none⟩ : Addr).add 8) = some (.int .i64 x8) ∧ ∃ x9 : Int, rd H1 ((⟨H.size, 0, none⟩ : Addr).add 9) = some (.int .i64 x9) ∧ ∃ x10 : Sl, rd H1 ((⟨H.size, 0, none⟩ : Addr).add 10) = some (.slice x10.p x10.n x10.c) ∧ (
  letH (H1.push (.cells #[.int .i64 x, .int .i64 x1, .int .i64 x2, .int .i64 x3, .bool x4, .bool x5, .bool x6, .int .i64 x7, .int .i64 x8, .int .i64 x9, .slice x10.p x10.n x10.c, .int .u8 (0 : Int), .int .u8 (0 : Int), .int .u8 (0 : Int), .int .u8 (0 : Int), .int .u8 (0 : Int), .int .u8 (0 : Int), .int .u8 (0 : Int), .int .u8 (0 : Int), .int .u8 (0 : Int), .int .u8 (0 : Int), .int .u8 (0 : Int), .int .u8 (0 : Int), .int .u8 (0 : Int), .int .u8 (0 : Int), .int .u8 (0 : Int), .int .u8 (0 : Int), .int .u8 (0 : Int), .int .u8 (0 : Int), .int .u8 (0 : Int), .int .u8 (0 : Int), .int .u8 (0 : Int), .int .u8 (0 : Int), .int .u8 (0 : Int), .int .u8 (0 : Int), .int .u8 (0 : Int), .int .u8 (0 : Int), .int .u8 (0 : Int), .int .u8 (0 : Int), .int .u8 (0 : Int), .int .u8 (0 : Int), .int .u8 (0 : Int), .int .u8 (0 : Int), .int .u8 (0 : Int), .int .u8 (0 : Int), .int .u8 (0 : Int), .int .u8 (0 : Int), .int .u8 (0 : Int), .int .u8 (0 : Int), .int .u8 (0 : Int), .int .u8 (0 : Int), .int .u8 (0 : Int), .int .u8 (0 : Int), .int .u8 (0 : Int), .int .u8 (0 : Int), .int .u8 (0 : Int), .int .u8 (0 : Int), .int .u8 (0 : Int), .int .u8 (0 : Int), .int .u8 (0 : Int), .int .u8 (0 : Int), .int .u8 (0 : Int), .int .u8 (0 : Int), .int .u8 (0 : Int), .int .u8 (0 : Int), .int .u8 (0 : Int), .int .u8 (0 : Int), .int .u8 (0 : Int), .int .u8 (0 : Int), .int .u8 (0 : Int), .int .u8 (0 : Int), .int .u8 (0 : Int), .int .u8 (0 : Int), .int .u8 (0 : Int), .int .u8 (0 : Int), .int .u8 (0 : Int), .int .u8 (0 : Int), .int .u8 (0 : Int), .int .u8 (0 : Int), .int .u8 (0 : Int), .int .u8 (0 : Int), .int .u8 (0 : Int), .int .u8 (0 : Int), .int .u8 (0 : Int), .int .u8 (0 : Int), .int .u8 (0 : Int), .int .u8 (0 : Int), .int .u8 (0 : Int), .int .u8 (0 : Int), .int .u8 (0 : Int), .int .u8 (0 : Int), .int .u8 (0 : Int), .int .u8 (0 : Int), .int .u8 (0 : Int), .int .u8 (0 : Int), .int .u8 (0 : Int), .int .u8 (0 : Int), .int .u8 (0 : Int), .int .u8 (0 : Int), .int .u8 (0 : Int), .int .u8 (0 : Int), .int .u8 (0 : Int), .int .u8 (0 : Int), .int .u8 (0 : Int), .int .u8 (0 : Int), .int .u8 (0 : Int), .int .u8 (0 : Int), .int .u8 (0 : Int), .int .u8 (0 : Int), .int .u8 (0 : Int), .int .u8 (0 : Int), .int .u8 (0 : Int), .int .u8 (0 : Int), .int .u8 (0 : Int), .int .u8 (0 : Int), .int .u8 (0 : Int), .int .u8 (0 : Int), .int .u8 (0 : Int), .int .u8 (0 : Int), .int .u8 (0 : Int), .int .u8 (0 : Int), .int .u8 (0 : Int), .int .u8 (0 : Int), .int .u8 (0 : Int), .int .u8 (0 : Int), .int .u8 (0 : Int), .int .u8 (0 : Int), .int .u8 (0 : Int), .int .u8 (0 : Int), .int .u8 (0 : Int), .int .u8 (0 : Int), .int .u8 (0 : Int), .int .u8 (0 : Int), .int .u8 (0 : Int), .int .u8 (0 : Int), .int .u8 (0 : Int), .int .u8 (0 : Int), .int .u8 (0 : Int), .int .u8 (0 : Int), .int .u8 (0 : Int), .int .u8 (0 : Int), .int .u8 (0 : Int), .int .u8 (0 : Int), .int .u8 (0 : Int), .int .u8 (0 : Int), .int .u8 (0 : Int), .int .u8 (0 : Int), .int .u8 (0 : Int), .int .u8 (0 : Int), .int .u8 (0 : Int), .int .u8 (0 : Int), .int .u8 (0 : Int), .int .u8 (0 : Int), .int .u8 (0 : Int), .int .u8 (0 : Int), .int .u8 (0 : Int), .int .u8 (0 : Int), .int .u8 (0 : Int), .int .u8 (0 : Int), .int .u8 (0 : Int), .int .u8 (0 : Int), .int .u8 (0 : Int), .int .u8 (0 : Int), .int .u8 (0 : Int), .int .u8 (0 : Int), .int .u8 (0 : Int), .int .u8 (0 : Int), .int .u8 (0 : Int), .int .u8 (0 : Int), .int .u8 (0 : Int), .int .u8 (0 : Int), .int .u8 (0 : Int), .int .u8 (0 : Int), .int .u8 (0 : Int), .int .u8 (0 : Int), .int .u8 (0 : Int), .int .u8 (0 : Int), .int .u8 (0 : Int), .int .u8 (0 : Int), .int .u8 (0 : Int), .int .u8 (0 : Int), .int .u8 (0 : Int), .int .u8 (0 : Int), .int .u8 (0 : Int), .int .u8 (0 : Int), .int .u8 (0 : Int), .int .u8 (0 : Int), .int .u8 (0 : Int), .int .u8 (0 : Int), .int .u8 (0 : Int), .int .u8 (0 : Int), .int .u8 (0 : Int), .int .u8 (0 : Int), .int .u8 (0 : Int), .int .u8 (0 : Int), .int .u8 (0 : Int), .int .u8 (0 : Int), .int .u8 (0 : Int), .int .u8 (0 : Int), .int .u8 (0 : Int), .int .u8 (0 : Int), .int .u8 (0 : Int), .int .u8 (0 : Int), .int .u8 (0 : Int), .int .u8 (0 : Int), .int .u8 (0 : Int), .int .u8 (0 : Int), .int .u8 (0 : Int), .int .u8 (0 : Int), .int .u8 (0 : Int), .int .u8 (0 : Int), .int .u8 (0 : Int), .int .u8 (0 : Int), .int .u8 (0 : Int), .int .u8 (0 : Int), .int .u8 (0 : Int), .int .u8 (0 : Int), .int .u8 (0 : Int), .int .u8 (0 : Int), .int .u8 (0 : Int), .int .u8 (0 : Int), .int .u8 (0 : Int), .int .u8 (0 : Int), .int .u8 (0 : Int), .int .u8 (0 : Int), .int .u8 (0 : Int), .int .u8 (0 : Int), .int .u8 (0 : Int), .int .u8 (0 : Int), .int .u8 (0 : Int), .int .u8 (0 : Int), .int .u8 (0 : Int), .int .u8 (0 : Int), .int .u8 (0 : Int), .int .u8 (0 : Int), .int .u8 (0 : Int), .int .u8 (0 : Int), .int .u8 (0 : Int), .int .u8 (0 : Int), .int .u8 (0 : Int), .int .u8 (0 : Int), .int .u8 (0 : Int), .int .u8 (0 : Int), .int .u8 (0 : Int), .int .u8 (0 : Int), .int .u8 (0 : Int), .int .u8 (0 : Int), .int .u8 (0 : Int), .int .u8 (0 : Int), .int .u8 (0 : Int), .int .u8 (0 : Int), .int .u8 (0 : Int), .int .u8 (0 : Int), .int .u8 (0 : Int), .int .u8 (0 : Int), .int .u8 (0 : Int), .int .u8 (0 : Int), .int .u8 (0 : Int), .int .u8 (0 : Int), .int .u8 (0 : Int), .int .u8 (0 : Int), .int .u8 (0 : Int), .int .u8 (0 : Int), .int .u8 (0 : Int), .int .u8 (0 : Int), .int .u8 (0 : Int), .int .u8 (0 : Int), .int .u8 (0 : Int), .int .u8 (0 : Int), .int .u8 (0 : Int), .int .u8 (0 : Int), .int .u8 (0 : Int), .int .u8 (0 : Int), .int .u8 (0 : Int), .int .u8 (0 : Int), .int .u8 (0 : Int), .int .u8 (0 : Int), .int .u8 (0 : Int), .int .u8 (0 : Int), .int .u8 (0 : Int), .int .u8 (0 : Int), .int .u8 (0 : Int), .int .u8 (0 : Int), .int .u8 (0 : Int), .int .u8 (0 : Int), .int .u8 (0 : Int), .int .u8 (0 : Int), .int .u8 (0 : Int), .int .u8 (0 : Int), .int .u8 (0 : Int), .int .u8 (0 : Int), .int .u8 (0 : Int), .int .u8 (0 : Int), .int .u8 (0 : Int), .int .u8 (0 : Int), .int .u8 (0 : Int), .int .u8 (0 : Int), .int .u8 (0 : Int), .int .u8 (0 : Int), .int .u8 (0 : Int), .int .u8 (0 : Int), .int .u8 (0 : Int), .int .u8 (0 : Int), .int .u8 (0 : Int), .int .u8 (0 : Int), .int .u8 (0 : Int), .int .u8 (0 : Int), .int .u8 (0 : Int), .int .u8 (0 : Int), .int .u8 (0 : Int), .int .u8 (0 : Int), .int .u8 (0 : Int), .int .u8 (0 : Int), .int .u8 (0 : Int), .int .u8 (0 : Int), .int .u8 (0 : Int), .int .u8 (0 : Int), .int .u8 (0 : Int), .int .u8 (0 : Int), .int .u8 (0 : Int), .int .u8 (0 : Int), .int .u8 (0 : Int), .int .u8 (0 : Int), .int .u8 (0 : Int), .int .u8 (0 : Int), .int .u8 (0 : Int), .int .u8 (0 : Int), .int .u8 (0 : Int), .int .u8 (0 : Int), .int .u8 (0 : Int), .int .u8 (0 : Int), .int .u8 (0 : Int), .int .u8 (0 : Int), .int .u8 (0 : Int), .int .u8 (0 : Int), .int .u8 (0 : Int), .int .u8 (0 : Int), .int .u8 (0 : Int), .int .u8 (0 : Int), .int .u8 (0 : Int), .int .u8 (0 : Int), .int .u8 (0 : Int), .int .u8 (0 : Int), .int .u8 (0 : Int), .int .u8 (0 : Int), .int .u8 (0 : Int), .int .u8 (0 : Int), .int .u8 (0 : Int), .int .u8 (0 : Int), .int .u8 (0 : Int), .int .u8 (0 : Int), .int .u8 (0 : Int), .int .u8 (0 : Int), .int .u8 (0 : Int), .int .u8 (0 : Int), .int .u8 (0 : Int), .int .u8 (0 : Int), .int .u8 (0 : Int), .int .u8 (0 : Int), .int .u8 (0 : Int), .int .u8 (0 : Int), .int .u8 (0 : Int), .int .u8 (0 : Int), .int .u8 (0 : Int), .int .u8 (0 : Int), .int .u8 (0 : Int), .int .u8 (0 : Int), .int .u8 (0 : Int), .int .u8 (0 : Int), .int .u8 (0 : Int), .int .u8 (0 : Int), .int .u8 (0 : Int), .int .u8 (0 : Int), .int .u8 (0 : Int), .int .u8 (0 : Int), .int .u8 (0 : Int), .int .u8 (0 : Int), .int .u8 (0 : Int), .int .u8 (0 : Int), .int .u8 (0 : Int), .int .u8 (0 : Int), .int .u8 (0 : Int), .int .u8 (0 : Int), .int .u8 (0 : Int), .int .u8 (0 : Int), .int .u8 (0 : Int), .int .u8 (0 : Int), .int .u8 (0 : Int), .int .u8 (0 : Int), .int .u8 (0 : Int), .int .u8 (0 : Int), .int .u8 (0 : Int), .int .u8 (0 : Int), .int .u8 (0 : Int), .int .u8 (0 : Int), .int .u8 (0 : Int), .int .u8 (0 : Int), .int .u8 (0 : Int), .int .u8 (0 : Int), .int .u8 (0 : Int), .int .u8 (0 : Int), .int .u8 (0 : Int), .int .u8 (0 : Int), .int .u8 (0 : Int), .int .u8 (0 : Int), .int .u8 (0 : Int), .int .u8 (0 : Int), .int .u8 (0 : Int), .int .u8 (0 : Int), .int .u8 (0 : Int), .int .u8 (0 : Int), .int .u8 (0 : Int), .int .u8 (0 : Int), .int .u8 (0 : Int), .int .u8 (0 : Int), .int .u8 (0 : Int), .int .u8 (0 : Int), .int .u8 (0 : Int), .int .u8 (0 : Int), .int .u8 (0 : Int), .int .u8 (0 : Int), .int .u8 (0 : Int), .int .u8 (0 : Int), .int .u8 (0 : Int), .int .u8 (0 : Int), .int .u8 (0 : Int), .int .u8 (0 : Int), .int .u8 (0 : Int), .int .u8 (0 : Int), .int .u8 (0 : Int), .int .u8 (0 : Int), .int .u8 (0 : Int), .int .u8 (0 : Int), .int .u8 (0 : Int), .int .u8 (0 : Int), .int .u8 (0 : Int), .int .u8 (0 : Int), .int .u8 (0 : Int), .int .u8 (0 : Int), .int .u8 (0 : Int), .int .u8 (0 : Int), .int .u8 (0 : Int), .int .u8 (0 : Int), .int .u8 (0 : Int), .int .u8 (0 : Int), .int .u8 (0 : Int), .int .u8 (0 : Int), .int .u8 (0 : Int), .int .u8 (0 : Int), .int .u8 (0 : Int), .int .u8 (0 : Int), .int .u8 (0 : Int), .int .u8 (0 : Int), .int .u8 (0 : Int), .int .u8 (0 : Int), .int .u8 (0 : Int), .int .u8 (0 : Int), .int .u8 (0 : Int), .int .u8 (0 : Int), .int .u8 (0 : Int), .int .u8 (0 : Int), .int .u8 (0 : Int), .int .u8 (0 : Int), .int .u8 (0 : Int), .int .u8 (0 : Int), .int .u8 (0 : Int), .int .u8 (0 : Int), .int .u8 (0 : Int), .int .u8 (0 : Int), .int .u8 (0 : Int), .int .u8 (0 : Int), .int .u8 (0 : Int), .int .u8 (0 : Int), .int .u8 (0 : Int), .int .u8 (0 : Int), .int .u8 (0 : Int), .int .u8 (0 : Int), .int .u8 (0 : Int), .int .u8 (0 : Int), .int .u8 (0 : Int), .int .u8 (0 : Int), .int .u8 (0 : Int), .int .u8 (0 : Int), .int .u8 (0 : Int), .int .u8 (0 : Int), .int .u8 (0 : Int), .int .u8 (0 : Int), .int .u8 (0 : Int), .int .u8 (0 : Int), .int .u8 (0 : Int), .int .u8 (0 : Int), .int .u8 (0 : Int), .int .u8 (0 : Int), .int .u8 (0 : Int), .int .u8 (0 : Int), .int .u8 (0 : Int), .int .u8 (0 : Int), .int .u8 (0 : Int), .int .u8 (0 : Int), .int .u8 (0 : Int), .int .u8 (0 : Int), .int .u8 (0 : Int), .int .u8 (0 : Int), .int .u8 (0 : Int), .int .u8 (0 : Int), .int .u8 (0 : Int), .int .u8 (0 : Int), .int .u8 (0 : Int), .int .u8 (0 : Int), .int .u8 (0 : Int), .int .u8 (0 : Int), .int .u8 (0 : Int), .int .u8 (0 : Int), .int .u8 (0 : Int), .int .u8 (0 : Int), .int .u8 (0 : Int), .int .u8 (0 : Int), .int .u8 (0 : Int), .int .u8 (0 : Int), .int .u8 (0 : Int), .int .u8 (0 : Int), .int .u8 (0 : Int), .int .u8 (0 : Int)] t_ref18_Device (0, 0))) (fun H2 : Heap =>
  ∃ x11 : Int, rd H2 ((⟨H.size, 0, none⟩ : Addr).add 2) = some (.int .i64 x11) ∧ (
  CallsH Try.prog n_ref18_Device_set #[.pointer (some (⟨H1.size, 0, none⟩ : Addr)), .int .i64 (0 : Int), .int .i64 (2 : Int), .int .u64 (IntKind.u64.wrap x11), .int .u64 (0 : Int)] H2 (fun v H3 =>
  v = .tuple #[] ∧ (
  ∃ x12 : Int, rd H3 ((⟨H.size, 0, none⟩ : Addr).add 3) = some (.int .i64 x12) ∧ (
  CallsH Try.prog n_ref18_Device_set #[.pointer (some (⟨H1.size, 0, none⟩ : Addr)), .int .i64 (2 : Int), .int .i64 (2 : Int), .int .u64 (IntKind.u64.wrap x12), .int .u64 (0 : Int)] H3 (fun v1 H4 =>
  v1 = .tuple #[] ∧ (
  CallsH Try.prog n_ref18_Device_set #[.pointer (some (⟨H1.size, 0, none⟩ : Addr)), .int .i64 (4 : Int), .int .i64 (2 : Int), .int .u64 (0 : Int), .int .u64 (7 : Int)] H4 (fun v2 H5 =>
  v2 = .tuple #[] ∧ (
  CallsH Try.prog n_ref18_Device_set #[.pointer (some (⟨H1.size, 0, none⟩ : Addr)), .int .i64 (60 : Int), .int .i64 (1 : Int), .int .u64 (0 : Int), .int .u64 (255 : Int)] H5 (fun v3 H6 =>
  v3 = .tuple #[] ∧ (
  ∃ x13 : Int, rd H6 ((⟨H.size, 0, none⟩ : Addr).add 8) = some (.int .i64 x13) ∧ (
  CallsH Try.prog n_ref18_Device_set #[.pointer (some (⟨H1.size, 0, none⟩ : Addr)), .int .i64 (61 : Int), .int .i64 (1 : Int), .int .u64 (IntKind.u64.wrap x13), .int .u64 (0 : Int)] H6 (fun v4 H7 =>
  v4 = .tuple #[] ∧ (
  ∃ I_ : Int → Heap → Prop, ∃ M_ : Int → Heap → Nat, I_ (0 : Int) H7 ∧ (∀ i : Int, ∀ H8 : Heap, I_ i H8 → F_ref18_NewDevice_r3 R H H1 I_ M_ i H8)))))))))))))))))

theorem F_ref18_NewDevice_eq (R : Value → Heap → Prop) (f_0 : Int) (f_1 : Int) (f_2 : Int) (f_3 : Int) (f_4 : Bool) (f_5 : Bool) (f_6 : Bool) (f_7 : Int) (f_8 : Int) (f_9 : Int) (f_10 : Sl) (H : Heap) : wpF Try.prog Try.f12 [(4, .int .i64 0)] [(22, [], [1, 3, 4, 5]), (29, [], [1, 3])] [(8, [4], [1, 3])] [19] [.agg #[.int .i64 f_0, .int .i64 f_1, .int .i64 f_2, .int .i64 f_3, .bool f_4, .bool f_5, .bool f_6, .int .i64 f_7, .int .i64 f_8, .int .i64 f_9, .slice f_10.p f_10.n f_10.c]] H R = F_ref18_NewDevice R f_0 f_1 f_2 f_3 f_4 f_5 f_6 f_7 f_8 f_9 f_10 H := by kernel_rfl

theorem F_ref18_NewDevice_ok {R : Value → Heap → Prop} (f_0 : Int) (f_1 : Int) (f_2 : Int) (f_3 : Int) (f_4 : Bool) (f_5 : Bool) (f_6 : Bool) (f_7 : Int) (f_8 : Int) (f_9 : Int) (f_10 : Sl) {H : Heap} (h : F_ref18_NewDevice R f_0 f_1 f_2 f_3 f_4 f_5 f_6 f_7 f_8 f_9 f_10 H) : CallsH Try.prog n_ref18_NewDevice #[.agg #[.int .i64 f_0, .int .i64 f_1, .int .i64 f_2, .int .i64 f_3, .bool f_4, .bool f_5, .bool f_6, .int .i64 f_7, .int .i64 f_8, .int .i64 f_9, .slice f_10.p f_10.n f_10.c]] H R :=
  wpF_ok Try.func12 (F_ref18_NewDevice_eq R f_0 f_1 f_2 f_3 f_4 f_5 f_6 f_7 f_8 f_9 f_10 H) h

/-! ### 13: platformfw/platformfwlaw18.access -/

def F_law18_access (R : Value → Heap → Prop) (o_0 : Int) (o_1 : Int) (o_2 : Bool) (o_3 : Int) (o_4 : Bool) (H : Heap) : Prop :=
  letH (H.push (.cells #[.int .i64 o_0, .int .i64 o_1, .bool o_2, .int .u64 o_3, .bool o_4] t_law18_Op (0, 0))) (fun H1 : Heap =>
  ∃ x : Bool, rd H1 ((⟨H.size, 0, none⟩ : Addr).add 4) = some (.bool x) ∧ (
  iteB x (
  ∃ x1 : Int, rd H1 (⟨H.size, 0, none⟩ : Addr) = some (.int .i64 x1) ∧ (
  ∃ x2 : Int, rd H1 ((⟨H.size, 0, none⟩ : Addr).add 1) = some (.int .i64 x2) ∧ (
  R (.tuple #[.int .i64 x1, .int .i64 x2]) H1))) (
  letH (H1.push (.cells #[.int .i64 (1 : Int), .int .i64 (2 : Int), .int .i64 (4 : Int)] t_int (0, 0))) (fun H2 : Heap =>
  ∃ x3 : Int, rd H2 ((⟨H.size, 0, none⟩ : Addr).add 1) = some (.int .i64 x3) ∧ (
  CallsH Try.prog n_help_Mod #[.int .i64 x3, .int .i64 (3 : Int)] H2 (fun v H3 =>
  ∃ x4 : Int, v = .int .i64 x4 ∧ (
  0 ≤ x4 ∧ x4 < (3 : Int) ∧ (∃ w : Int, rd H3 ((⟨H1.size, 0, none⟩ : Addr).add (x4.toNat * 1)) = some (.int .i64 w) ∧ (
  ∃ x5 : Int, rd H3 (⟨H.size, 0, none⟩ : Addr) = some (.int .i64 x5) ∧ (
  CallsH Try.prog n_help_Mod #[.int .i64 x5, .int .i64 (64 : Int)] H3 (fun v1 H4 =>
  ∃ x6 : Int, v1 = .int .i64 x6 ∧ (
  w ≠ 0 ∧ (
  letV (IntKind.i64.wrap ((IntKind.i64.wrap (x6.tdiv w)) * w)) (fun x7 : Int =>
  R (.tuple #[.int .i64 x7, .int .i64 w]) H4))))))))))))))

theorem F_law18_access_eq (R : Value → Heap → Prop) (o_0 : Int) (o_1 : Int) (o_2 : Bool) (o_3 : Int) (o_4 : Bool) (H : Heap) : wpF Try.prog Try.f13 [] [] [] [19] [.agg #[.int .i64 o_0, .int .i64 o_1, .bool o_2, .int .u64 o_3, .bool o_4]] H R = F_law18_access R o_0 o_1 o_2 o_3 o_4 H := by kernel_rfl

theorem F_law18_access_ok {R : Value → Heap → Prop} (o_0 : Int) (o_1 : Int) (o_2 : Bool) (o_3 : Int) (o_4 : Bool) {H : Heap} (h : F_law18_access R o_0 o_1 o_2 o_3 o_4 H) : CallsH Try.prog n_law18_access #[.agg #[.int .i64 o_0, .int .i64 o_1, .bool o_2, .int .u64 o_3, .bool o_4]] H R :=
  wpF_ok Try.func13 (F_law18_access_eq R o_0 o_1 o_2 o_3 o_4 H) h

/-! ### 14: (*platformfw/pciconf.Device).Write -/

def F_pciconf_Device_Write_r1 (R : Value → Heap → Prop) (d : Addr) (offset : Int) (width : Int) (v : Int) (I_ : Int → Heap → Prop) (M_ : Int → Heap → Nat) (x1 : Int) (H2 : Heap) : Prop :=
  iteB (decide (x1 < width)) (
  0 ≤ (IntKind.i64.wrap (offset + x1)) ∧ (IntKind.i64.wrap (offset + x1)) < ((256 : Nat) : Int) ∧ (∃ mask : Int, rd H2 ((d.add 256).add ((IntKind.i64.wrap (offset + x1)).toNat * 1)) = some (.int .u8 mask) ∧ (
  0 ≤ (IntKind.i64.wrap (offset + x1)) ∧ (IntKind.i64.wrap (offset + x1)) < ((256 : Nat) : Int) ∧ (∃ x2 : Int, rd H2 (d.add ((IntKind.i64.wrap (offset + x1)).toNat * 1)) = some (.int .u8 x2) ∧ (
  0 ≤ (IntKind.i64.wrap ((8 : Int) * x1)) ∧ (
  0 ≤ (IntKind.i64.wrap (offset + x1)) ∧ (IntKind.i64.wrap (offset + x1)) < ((256 : Nat) : Int) ∧ (okRow H2 (d.add ((IntKind.i64.wrap (offset + x1)).toNat * 1)) 1 ∧ (
  letH (wrs H2 (d.add ((IntKind.i64.wrap (offset + x1)).toNat * 1)) [.int .u8 (bitsOr .u8 (bitsAndNot .u8 x2 mask) (bitsAnd .u8 (IntKind.u8.wrap (v.fdiv (2 ^ (min (IntKind.i64.wrap ((8 : Int) * x1)).toNat IntKind.u64.bits)))) mask))]) (fun H3 : Heap =>
  I_ (IntKind.i64.wrap (x1 + (1 : Int))) H3 ∧ M_ (IntKind.i64.wrap (x1 + (1 : Int))) H3 < M_ x1 H2))))))))) (
  R (.tuple #[]) H2)

def F_pciconf_Device_Write (R : Value → Heap → Prop) (d : Addr) (offset : Int) (width : Int) (v : Int) (H : Heap) : Prop :=
  CallsH Try.prog n_pciconf_wellFormed #[.int .i64 offset, .int .i64 width] H (fun v1 H1 =>
  ∃ x : Bool, v1 = .bool x ∧ (
  iteB (!x) (
  R (.tuple #[]) H1) (
  ∃ I_ : Int → Heap → Prop, ∃ M_ : Int → Heap → Nat, I_ (0 : Int) H1 ∧ (∀ x1 : Int, ∀ H2 : Heap, I_ x1 H2 → F_pciconf_Device_Write_r1 R d offset width v I_ M_ x1 H2))))

theorem F_pciconf_Device_Write_eq (R : Value → Heap → Prop) (d : Addr) (offset : Int) (width : Int) (v : Int) (H : Heap) : wpF Try.prog Try.f14 [(15, .int .i64 0)] [] [(2, [15], [0, 1, 3, 14])] [19] [.pointer (some d), .int .i64 offset, .int .i64 width, .int .u64 v] H R = F_pciconf_Device_Write R d offset width v H := by kernel_rfl

theorem F_pciconf_Device_Write_ok {R : Value → Heap → Prop} (d : Addr) (offset : Int) (width : Int) (v : Int) {H : Heap} (h : F_pciconf_Device_Write R d offset width v H) : CallsH Try.prog n_pciconf_Device_Write #[.pointer (some d), .int .i64 offset, .int .i64 width, .int .u64 v] H R :=
  wpF_ok Try.func14 (F_pciconf_Device_Write_eq R d offset width v H) h

/-! ### 15: (*platformfw/pciconf.Device).Read -/

def F_pciconf_Device_Read (R : Value → Heap → Prop) (d : Addr) (offset : Int) (width : Int) (H : Heap) : Prop :=
  CallsH Try.prog n_pciconf_wellFormed #[.int .i64 offset, .int .i64 width] H (fun v H1 =>
  ∃ x : Bool, v = .bool x ∧ (
  iteB (!x) (
  R (.int .u64 (0 : Int)) H1) (
  CallsH Try.prog n_pciconf_Device_number #[.pointer (some d), .int .i64 offset, .int .i64 width] H1 (fun v1 H2 =>
  ∃ x1 : Int, v1 = .int .u64 x1 ∧ (
  R (.int .u64 x1) H2)))))

theorem F_pciconf_Device_Read_eq (R : Value → Heap → Prop) (d : Addr) (offset : Int) (width : Int) (H : Heap) : wpF Try.prog Try.f15 [] [] [] [19] [.pointer (some d), .int .i64 offset, .int .i64 width] H R = F_pciconf_Device_Read R d offset width H := by kernel_rfl

theorem F_pciconf_Device_Read_ok {R : Value → Heap → Prop} (d : Addr) (offset : Int) (width : Int) {H : Heap} (h : F_pciconf_Device_Read R d offset width H) : CallsH Try.prog n_pciconf_Device_Read #[.pointer (some d), .int .i64 offset, .int .i64 width] H R :=
  wpF_ok Try.func15 (F_pciconf_Device_Read_eq R d offset width H) h

/-! ### 16: (*platformfw/platformfwref18.Device).Read -/

def F_ref18_Device_Read_r1 (R : Value → Heap → Prop) (d : Addr) (atv : Int) (width : Int) (I_ : Int → Int → Heap → Prop) (M_ : Int → Int → Heap → Nat) (v : Int) (i1 : Int) (H1 : Heap) : Prop :=
  CallsH Try.prog n_ref18_formed #[.int .i64 atv, .int .i64 width] H1 (fun v1 H2 =>
  ∃ x : Bool, v1 = .bool x ∧ (
  iteB x (
  iteB (decide (i1 ≥ (0 : Int))) (
  0 ≤ (8 : Int) ∧ (
  0 ≤ (IntKind.i64.wrap (atv + i1)) ∧ (IntKind.i64.wrap (atv + i1)) < ((256 : Nat) : Int) ∧ (∃ x1 : Int, rd H2 ((d.add 11).add ((IntKind.i64.wrap (atv + i1)).toNat * 1)) = some (.int .u8 x1) ∧ (
  letV (bitsOr .u64 (IntKind.u64.wrap (v * 2 ^ (min (8 : Int).toNat IntKind.u64.bits))) (IntKind.u64.wrap x1)) (fun v2 : Int =>
  letV (IntKind.i64.wrap (i1 - (1 : Int))) (fun i2 : Int =>
  I_ v2 i2 H2 ∧ M_ v2 i2 H2 < M_ v i1 H1)))))) (
  R (.int .u64 v) H2)) (
  R (.int .u64 v) H2)))

def F_ref18_Device_Read (R : Value → Heap → Prop) (d : Addr) (atv : Int) (width : Int) (H : Heap) : Prop :=
  letV (IntKind.i64.wrap (width - (1 : Int))) (fun i : Int =>
  ∃ I_ : Int → Int → Heap → Prop, ∃ M_ : Int → Int → Heap → Nat, I_ (0 : Int) i H ∧ (∀ v : Int, ∀ i1 : Int, ∀ H1 : Heap, I_ v i1 H1 → F_ref18_Device_Read_r1 R d atv width I_ M_ v i1 H1))

theorem F_ref18_Device_Read_eq (R : Value → Heap → Prop) (d : Addr) (atv : Int) (width : Int) (H : Heap) : wpF Try.prog Try.f16 [(7, .int .u64 0), (8, .int .i64 0)] [] [(3, [7, 8], [0, 1, 2])] [19] [.pointer (some d), .int .i64 atv, .int .i64 width] H R = F_ref18_Device_Read R d atv width H := by kernel_rfl

theorem F_ref18_Device_Read_ok {R : Value → Heap → Prop} (d : Addr) (atv : Int) (width : Int) {H : Heap} (h : F_ref18_Device_Read R d atv width H) : CallsH Try.prog n_ref18_Device_Read #[.pointer (some d), .int .i64 atv, .int .i64 width] H R :=
  wpF_ok Try.func16 (F_ref18_Device_Read_eq R d atv width H) h

/-! ### 17: (*platformfw/pciconf.Device).Probe -/

def F_pciconf_Device_Probe (R : Value → Heap → Prop) (d : Addr) (H : Heap) : Prop :=
  ∃ x : Sl, rd H (d.add 512) = some (.slice x.p x.n x.c) ∧ (
  0 ≤ (x.n : Int) ∧ (x.n : Int) ≤ (x.n : Int) ∧ (x.n : Int) * ((16 : Nat) : Int) ≤ 281474976710656 ∧ (
  letH (H.push (.cells (zeroRow (.agg #[.int .i64 (0 : Int), .int .i64 (0 : Int)]) (x.n : Int).toNat) t_api_Bar (0, 0))) (fun H1 : Heap =>
  ∃ x1 : Sl, rd H1 (d.add 512) = some (.slice x1.p x1.n x1.c) ∧ (
  runH Try.prog (Builtin.copy_ #[t_sl_api_Bar, t_sl_api_Bar] t_int #[.slice (some (⟨H.size, 0, none⟩ : Addr)) ((x.n : Int).toNat) ((x.n : Int).toNat), .slice x1.p x1.n x1.c]) H1 (fun v H2 =>
  ∃ x2 : Int, v = .int .i64 x2 ∧ (
  R (.slice (some (⟨H.size, 0, none⟩ : Addr)) ((x.n : Int).toNat) ((x.n : Int).toNat)) H2))))))

theorem F_pciconf_Device_Probe_eq (R : Value → Heap → Prop) (d : Addr) (H : Heap) : wpF Try.prog Try.f17 [] [] [] [19] [.pointer (some d)] H R = F_pciconf_Device_Probe R d H := by kernel_rfl

theorem F_pciconf_Device_Probe_ok {R : Value → Heap → Prop} (d : Addr) {H : Heap} (h : F_pciconf_Device_Probe R d H) : CallsH Try.prog n_pciconf_Device_Probe #[.pointer (some d)] H R :=
  wpF_ok Try.func17 (F_pciconf_Device_Probe_eq R d H) h

/-! ### 18: platformfw/platformfwref18.Registers -/

def F_ref18_Registers (R : Value → Heap → Prop) (f_0 : Int) (f_1 : Int) (f_2 : Int) (f_3 : Int) (f_4 : Bool) (f_5 : Bool) (f_6 : Bool) (f_7 : Int) (f_8 : Int) (f_9 : Int) (f_10 : Sl) (H : Heap) : Prop :=
  letH (H.push (.cells #[.int .i64 f_0, .int .i64 f_1, .int .i64 f_2, .int .i64 f_3, .bool f_4, .bool f_5, .bool f_6, .int .i64 f_7, .int .i64 f_8, .int .i64 f_9, .slice f_10.p f_10.n f_10.c] t_api_Function (0, 0))) (fun H1 : Heap =>
  ∃ x : Bool, rd H1 ((⟨H.size, 0, none⟩ : Addr).add 4) = some (.bool x) ∧ (
  iteB x (
  R (.int .i64 (2 : Int)) H1) (
  R (.int .i64 (6 : Int)) H1)))

theorem F_ref18_Registers_eq (R : Value → Heap → Prop) (f_0 : Int) (f_1 : Int) (f_2 : Int) (f_3 : Int) (f_4 : Bool) (f_5 : Bool) (f_6 : Bool) (f_7 : Int) (f_8 : Int) (f_9 : Int) (f_10 : Sl) (H : Heap) : wpF Try.prog Try.f18 [] [] [] [19] [.agg #[.int .i64 f_0, .int .i64 f_1, .int .i64 f_2, .int .i64 f_3, .bool f_4, .bool f_5, .bool f_6, .int .i64 f_7, .int .i64 f_8, .int .i64 f_9, .slice f_10.p f_10.n f_10.c]] H R = F_ref18_Registers R f_0 f_1 f_2 f_3 f_4 f_5 f_6 f_7 f_8 f_9 f_10 H := by kernel_rfl

theorem F_ref18_Registers_ok {R : Value → Heap → Prop} (f_0 : Int) (f_1 : Int) (f_2 : Int) (f_3 : Int) (f_4 : Bool) (f_5 : Bool) (f_6 : Bool) (f_7 : Int) (f_8 : Int) (f_9 : Int) (f_10 : Sl) {H : Heap} (h : F_ref18_Registers R f_0 f_1 f_2 f_3 f_4 f_5 f_6 f_7 f_8 f_9 f_10 H) : CallsH Try.prog n_ref18_Registers #[.agg #[.int .i64 f_0, .int .i64 f_1, .int .i64 f_2, .int .i64 f_3, .bool f_4, .bool f_5, .bool f_6, .int .i64 f_7, .int .i64 f_8, .int .i64 f_9, .slice f_10.p f_10.n f_10.c]] H R :=
  wpF_ok Try.func18 (F_ref18_Registers_eq R f_0 f_1 f_2 f_3 f_4 f_5 f_6 f_7 f_8 f_9 f_10 H) h

/-! ### 19: platformfw/platformfwhelp.Mod -/

def F_help_Mod (R : Value → Heap → Prop) (v : Int) (n : Int) (H : Heap) : Prop :=
  (IntKind.u64.wrap n) ≠ 0 ∧ (
  letV (IntKind.i64.wrap ((IntKind.u64.wrap v).tmod (IntKind.u64.wrap n))) (fun x : Int =>
  R (.int .i64 x) H))

theorem F_help_Mod_eq (R : Value → Heap → Prop) (v : Int) (n : Int) (H : Heap) : wpF Try.prog Try.f19 [] [] [] [19] [.int .i64 v, .int .i64 n] H R = F_help_Mod R v n H := by kernel_rfl

theorem F_help_Mod_ok {R : Value → Heap → Prop} (v : Int) (n : Int) {H : Heap} (h : F_help_Mod R v n H) : CallsH Try.prog n_help_Mod #[.int .i64 v, .int .i64 n] H R :=
  wpF_ok Try.func19 (F_help_Mod_eq R v n H) h

/-! ### 20: (*platformfw/pciconf.Device).Windows -/

def F_pciconf_Device_Windows_k1 (d : Addr) (I_ : Sl → Int → Heap → Prop) (M_ : Sl → Int → Heap → Nat) (l : Sl) (x1 : Int) (H1 : Heap) (H3 : Heap) (width : Int) (H8 : Heap) : Prop :=
  ∃ x5 : Int, rd H8 ((⟨H1.size, 0, none⟩ : Addr).add 1) = some (.int .i64 x5) ∧ (
  ∃ x6 : Int, rd H8 ((⟨H1.size, 0, none⟩ : Addr).add 1) = some (.int .i64 x6) ∧ (
  CallsH Try.prog n_pciconf_Device_number #[.pointer (some d), .int .i64 (IntKind.i64.wrap ((16 : Int) + (IntKind.i64.wrap ((4 : Int) * x1)))), .int .i64 width] H8 (fun v H9 =>
  ∃ x7 : Int, v = .int .u64 x7 ∧ (
  Keeps H8 H9 [(((⟨H1.size, 0, none⟩ : Addr).add 1), 1), (((⟨H1.size, 0, none⟩ : Addr).add 1), 1)] ∧ (
  0 ≤ x5 ∧ (
  0 ≤ x6 ∧ (
  okRow H9 ((⟨H3.size, 0, none⟩ : Addr).add 2) 1 ∧ (
  letH (wrs H9 ((⟨H3.size, 0, none⟩ : Addr).add 2) [.int .u64 (IntKind.u64.wrap ((x7.fdiv (2 ^ (min x5.toNat IntKind.u64.bits))) * 2 ^ (min x6.toNat IntKind.u64.bits)))]) (fun H10 : Heap =>
  ∃ x8 : Int, rd H10 ((⟨H1.size, 0, none⟩ : Addr).add 1) = some (.int .i64 x8) ∧ (
  0 ≤ x8 ∧ (
  okRow H10 (((⟨H3.size, 0, none⟩ : Addr).add 2).add 1) 1 ∧ (
  letH (wrs H10 (((⟨H3.size, 0, none⟩ : Addr).add 2).add 1) [.int .u64 (IntKind.u64.wrap ((1 : Int) * 2 ^ (min x8.toNat IntKind.u64.bits)))]) (fun H11 : Heap =>
  ∃ x9 : Int, rd H11 ((⟨H3.size, 0, none⟩ : Addr).add 1) = some (.int .i64 x9) ∧ (
  CallsH Try.prog n_pciconf_Device_enabled #[.pointer (some d), .int .i64 x9] H11 (fun v1 H12 =>
  ∃ x10 : Bool, v1 = .bool x10 ∧ (
  okRow H12 ((⟨H3.size, 0, none⟩ : Addr).add 4) 1 ∧ (
  letH (wrs H12 ((⟨H3.size, 0, none⟩ : Addr).add 4) [.bool x10]) (fun H13 : Heap =>
  ∃ x11 : Int, rd H13 (⟨H3.size, 0, none⟩ : Addr) = some (.int .i64 x11) ∧ ∃ x12 : Int, rd H13 ((⟨H3.size, 0, none⟩ : Addr).add 1) = some (.int .i64 x12) ∧ ∃ x13 : Int, rd H13 ((⟨H3.size, 0, none⟩ : Addr).add 2) = some (.int .u64 x13) ∧ ∃ x14 : Int, rd H13 ((⟨H3.size, 0, none⟩ : Addr).add 3) = some (.int .u64 x14) ∧ ∃ x15 : Bool, rd H13 ((⟨H3.size, 0, none⟩ : Addr).add 4) = some (.bool x15) ∧ (
  letH (H13.push (.cells #[.int .i64 x11, .int .i64 x12, .int .u64 x13, .int .u64 x14, .bool x15] t_api_Window (0, 0))) (fun H14 : Heap =>
  runH Try.prog (Builtin.append_ #[t_sl_api_Window, t_sl_api_Window] t_sl_api_Window #[.slice l.p l.n l.c, .slice (some (⟨H13.size, 0, none⟩ : Addr)) 1 1]) H14 (fun v2 H15 =>
  ∃ l1 : Sl, v2 = .slice l1.p l1.n l1.c ∧ (
  I_ l1 (IntKind.i64.wrap (x1 + (1 : Int))) H15 ∧ M_ l1 (IntKind.i64.wrap (x1 + (1 : Int))) H15 < M_ l x1 H1))))))))))))))))))))))

def F_pciconf_Device_Windows_r2 (R : Value → Heap → Prop) (d : Addr) (x : Sl) (I_ : Sl → Int → Heap → Prop) (M_ : Sl → Int → Heap → Nat) (l : Sl) (x1 : Int) (H1 : Heap) : Prop :=
  iteB (decide (x1 < (x.n : Int))) (
  0 ≤ x1 ∧ x1 < (x.n : Int) ∧ (unSome x.p (fun a =>
  ∃ x2 : Int, rd H1 (a.add (x1.toNat * 2)) = some (.int .i64 x2) ∧ ∃ x3 : Int, rd H1 ((a.add (x1.toNat * 2)).add 1) = some (.int .i64 x3) ∧ (
  letH (H1.push (.cells #[.int .i64 (0 : Int), .int .i64 (0 : Int)] t_api_Bar (0, 0))) (fun H2 : Heap =>
  okRow H2 (⟨H1.size, 0, none⟩ : Addr) 2 ∧ (
  letH (wrs H2 (⟨H1.size, 0, none⟩ : Addr) [.int .i64 x2, .int .i64 x3]) (fun H3 : Heap =>
  letH (H3.push (.cells #[.int .i64 (0 : Int), .int .i64 (0 : Int), .int .u64 (0 : Int), .int .u64 (0 : Int), .bool false] t_api_Window (0, 0))) (fun H4 : Heap =>
  okRow H4 (⟨H3.size, 0, none⟩ : Addr) 5 ∧ (
  letH (wrs H4 (⟨H3.size, 0, none⟩ : Addr) [.int .i64 x1, .int .i64 (1 : Int), .int .u64 (0 : Int), .int .u64 (0 : Int), .bool false]) (fun H5 : Heap =>
  ∃ J_ : Int → Heap → Prop, (
  ∃ x4 : Int, rd H5 (⟨H1.size, 0, none⟩ : Addr) = some (.int .i64 x4) ∧ (
  iteB (x4 == (0 : Int)) (
  I_ l (IntKind.i64.wrap (x1 + (1 : Int))) H5 ∧ M_ l (IntKind.i64.wrap (x1 + (1 : Int))) H5 < M_ l x1 H1) (
  iteB (x4 == (1 : Int)) (
  okRow H5 ((⟨H3.size, 0, none⟩ : Addr).add 1) 1 ∧ (
  letH (wrs H5 ((⟨H3.size, 0, none⟩ : Addr).add 1) [.int .i64 (0 : Int)]) (fun H6 : Heap =>
  J_ (4 : Int) H6))) (
  iteB (x4 == (3 : Int)) (
  J_ (8 : Int) H5) (
  iteB (x4 == (4 : Int)) (
  okRow H5 ((⟨H3.size, 0, none⟩ : Addr).add 1) 1 ∧ (
  letH (wrs H5 ((⟨H3.size, 0, none⟩ : Addr).add 1) [.int .i64 (2 : Int)]) (fun H7 : Heap =>
  J_ (8 : Int) H7))) (
  J_ (4 : Int) H5)))))) ∧ (∀ width : Int, ∀ H8 : Heap, J_ width H8 → F_pciconf_Device_Windows_k1 d I_ M_ l x1 H1 H3 width H8))))))))))) (
  ∃ x16 : Bool, rd H1 (d.add 513) = some (.bool x16) ∧ (
  iteB (!x16) (
  R (.slice l.p l.n l.c) H1) (
  CallsH Try.prog n_pciconf_Device_number #[.pointer (some d), .int .i64 (28 : Int), .int .i64 (1 : Int)] H1 (fun v3 H16 =>
  ∃ x17 : Int, v3 = .int .u64 x17 ∧ (
  0 ≤ (4 : Int) ∧ (
  CallsH Try.prog n_pciconf_Device_number #[.pointer (some d), .int .i64 (29 : Int), .int .i64 (1 : Int)] H16 (fun v4 H17 =>
  ∃ x18 : Int, v4 = .int .u64 x18 ∧ (
  0 ≤ (4 : Int) ∧ (
  letV (x17.fdiv (2 ^ (min (4 : Int).toNat IntKind.u64.bits))) (fun first : Int =>
  letV (x18.fdiv (2 ^ (min (4 : Int).toNat IntKind.u64.bits))) (fun last : Int =>
  0 ≤ (12 : Int) ∧ (
  0 ≤ (12 : Int) ∧ (
  CallsH Try.prog n_pciconf_Device_appendWindow #[.pointer (some d), .slice l.p l.n l.c, .int .i64 (0 : Int), .int .u64 (IntKind.u64.wrap (first * 2 ^ (min (12 : Int).toNat IntKind.u64.bits))), .int .u64 (bitsOr .u64 (IntKind.u64.wrap (last * 2 ^ (min (12 : Int).toNat IntKind.u64.bits))) (4095 : Int))] H17 (fun v5 H18 =>
  ∃ l2 : Sl, v5 = .slice l2.p l2.n l2.c ∧ (
  CallsH Try.prog n_pciconf_Device_number #[.pointer (some d), .int .i64 (32 : Int), .int .i64 (2 : Int)] H18 (fun v6 H19 =>
  ∃ x19 : Int, v6 = .int .u64 x19 ∧ (
  0 ≤ (4 : Int) ∧ (
  CallsH Try.prog n_pciconf_Device_number #[.pointer (some d), .int .i64 (34 : Int), .int .i64 (2 : Int)] H19 (fun v7 H20 =>
  ∃ x20 : Int, v7 = .int .u64 x20 ∧ (
  0 ≤ (4 : Int) ∧ (
  letV (x19.fdiv (2 ^ (min (4 : Int).toNat IntKind.u64.bits))) (fun first1 : Int =>
  letV (x20.fdiv (2 ^ (min (4 : Int).toNat IntKind.u64.bits))) (fun last1 : Int =>
  0 ≤ (20 : Int) ∧ (
  0 ≤ (20 : Int) ∧ (
  CallsH Try.prog n_pciconf_Device_appendWindow #[.pointer (some d), .slice l2.p l2.n l2.c, .int .i64 (1 : Int), .int .u64 (IntKind.u64.wrap (first1 * 2 ^ (min (20 : Int).toNat IntKind.u64.bits))), .int .u64 (bitsOr .u64 (IntKind.u64.wrap (last1 * 2 ^ (min (20 : Int).toNat IntKind.u64.bits))) (1048575 : Int))] H20 (fun v8 H21 =>
  ∃ l3 : Sl, v8 = .slice l3.p l3.n l3.c ∧ (
  ∃ x21 : Bool, rd H21 (d.add 514) = some (.bool x21) ∧ (
  iteB x21 (
  CallsH Try.prog n_pciconf_Device_number #[.pointer (some d), .int .i64 (36 : Int), .int .i64 (2 : Int)] H21 (fun v9 H22 =>
  ∃ x22 : Int, v9 = .int .u64 x22 ∧ (
  0 ≤ (4 : Int) ∧ (
  0 ≤ (20 : Int) ∧ (
  CallsH Try.prog n_pciconf_Device_number #[.pointer (some d), .int .i64 (40 : Int), .int .i64 (4 : Int)] H22 (fun v10 H23 =>
  ∃ x23 : Int, v10 = .int .u64 x23 ∧ (
  0 ≤ (32 : Int) ∧ (
  letV (bitsOr .u64 (IntKind.u64.wrap ((x22.fdiv (2 ^ (min (4 : Int).toNat IntKind.u64.bits))) * 2 ^ (min (20 : Int).toNat IntKind.u64.bits))) (IntKind.u64.wrap (x23 * 2 ^ (min (32 : Int).toNat IntKind.u64.bits)))) (fun first2 : Int =>
  CallsH Try.prog n_pciconf_Device_number #[.pointer (some d), .int .i64 (38 : Int), .int .i64 (2 : Int)] H23 (fun v11 H24 =>
  ∃ x24 : Int, v11 = .int .u64 x24 ∧ (
  0 ≤ (4 : Int) ∧ (
  0 ≤ (20 : Int) ∧ (
  CallsH Try.prog n_pciconf_Device_number #[.pointer (some d), .int .i64 (44 : Int), .int .i64 (4 : Int)] H24 (fun v12 H25 =>
  ∃ x25 : Int, v12 = .int .u64 x25 ∧ (
  0 ≤ (32 : Int) ∧ (
  letV (bitsOr .u64 (IntKind.u64.wrap ((x24.fdiv (2 ^ (min (4 : Int).toNat IntKind.u64.bits))) * 2 ^ (min (20 : Int).toNat IntKind.u64.bits))) (IntKind.u64.wrap (x25 * 2 ^ (min (32 : Int).toNat IntKind.u64.bits)))) (fun last2 : Int =>
  CallsH Try.prog n_pciconf_Device_appendWindow #[.pointer (some d), .slice l3.p l3.n l3.c, .int .i64 (2 : Int), .int .u64 first2, .int .u64 (bitsOr .u64 last2 (1048575 : Int))] H25 (fun v13 H26 =>
  ∃ l4 : Sl, v13 = .slice l4.p l4.n l4.c ∧ (
  R (.slice l4.p l4.n l4.c) H26))))))))))))))))))) (
  R (.slice l3.p l3.n l3.c) H21)))))))))))))))))))))))))))))

def F_pciconf_Device_Windows (R : Value → Heap → Prop) (d : Addr) (H : Heap) : Prop :=
  ∃ x : Sl, rd H (d.add 512) = some (.slice x.p x.n x.c) ∧ (
  ∃ I_ : Sl → Int → Heap → Prop, ∃ M_ : Sl → Int → Heap → Nat, I_ (Sl.mk none 0 0) (0 : Int) H ∧ (∀ l : Sl, ∀ x1 : Int, ∀ H1 : Heap, I_ l x1 H1 → F_pciconf_Device_Windows_r2 R d x I_ M_ l x1 H1))

theorem F_pciconf_Device_Windows_eq (R : Value → Heap → Prop) (d : Addr) (H : Heap) : wpF Try.prog Try.f20 [(3, .slice none 0 0), (7, .int .i64 0), (15, .int .i64 0)] [(16, [7], [0, 3, 4, 5, 6, 13, 14, 15])] [(3, [3, 15], [0, 13, 14])] [19] [.pointer (some d)] H R = F_pciconf_Device_Windows R d H := by kernel_rfl

theorem F_pciconf_Device_Windows_ok {R : Value → Heap → Prop} (d : Addr) {H : Heap} (h : F_pciconf_Device_Windows R d H) : CallsH Try.prog n_pciconf_Device_Windows #[.pointer (some d)] H R :=
  wpF_ok Try.func20 (F_pciconf_Device_Windows_eq R d H) h

/-! ### 21: platformfw/pciconf.registers -/

def F_pciconf_registers (R : Value → Heap → Prop) (bridge : Bool) (H : Heap) : Prop :=
  iteB bridge (
  R (.int .i64 (2 : Int)) H) (
  R (.int .i64 (6 : Int)) H)

theorem F_pciconf_registers_eq (R : Value → Heap → Prop) (bridge : Bool) (H : Heap) : wpF Try.prog Try.f21 [] [] [] [19] [.bool bridge] H R = F_pciconf_registers R bridge H := by kernel_rfl

theorem F_pciconf_registers_ok {R : Value → Heap → Prop} (bridge : Bool) {H : Heap} (h : F_pciconf_registers R bridge H) : CallsH Try.prog n_pciconf_registers #[.bool bridge] H R :=
  wpF_ok Try.func21 (F_pciconf_registers_eq R bridge H) h

/-! ### 22: (*platformfw/pciconf.Device).define -/

def F_pciconf_Device_define_r1 (R : Value → Heap → Prop) (d : Addr) (offset : Int) (width : Int) (v : Int) (writable : Int) (I_ : Int → Heap → Prop) (M_ : Int → Heap → Nat) (x : Int) (H1 : Heap) : Prop :=
  iteB (decide (x < width)) (
  0 ≤ (IntKind.i64.wrap ((8 : Int) * x)) ∧ (
  0 ≤ (IntKind.i64.wrap (offset + x)) ∧ (IntKind.i64.wrap (offset + x)) < ((256 : Nat) : Int) ∧ (okRow H1 (d.add ((IntKind.i64.wrap (offset + x)).toNat * 1)) 1 ∧ (
  letH (wrs H1 (d.add ((IntKind.i64.wrap (offset + x)).toNat * 1)) [.int .u8 (IntKind.u8.wrap (v.fdiv (2 ^ (min (IntKind.i64.wrap ((8 : Int) * x)).toNat IntKind.u64.bits))))]) (fun H2 : Heap =>
  0 ≤ (IntKind.i64.wrap ((8 : Int) * x)) ∧ (
  0 ≤ (IntKind.i64.wrap (offset + x)) ∧ (IntKind.i64.wrap (offset + x)) < ((256 : Nat) : Int) ∧ (okRow H2 ((d.add 256).add ((IntKind.i64.wrap (offset + x)).toNat * 1)) 1 ∧ (
  letH (wrs H2 ((d.add 256).add ((IntKind.i64.wrap (offset + x)).toNat * 1)) [.int .u8 (IntKind.u8.wrap (writable.fdiv (2 ^ (min (IntKind.i64.wrap ((8 : Int) * x)).toNat IntKind.u64.bits))))]) (fun H3 : Heap =>
  I_ (IntKind.i64.wrap (x + (1 : Int))) H3 ∧ M_ (IntKind.i64.wrap (x + (1 : Int))) H3 < M_ x H1))))))))) (
  R (.tuple #[]) H1)

def F_pciconf_Device_define (R : Value → Heap → Prop) (d : Addr) (offset : Int) (width : Int) (v : Int) (writable : Int) (H : Heap) : Prop :=
  ∃ I_ : Int → Heap → Prop, ∃ M_ : Int → Heap → Nat, I_ (0 : Int) H ∧ (∀ x : Int, ∀ H1 : Heap, I_ x H1 → F_pciconf_Device_define_r1 R d offset width v writable I_ M_ x H1)

theorem F_pciconf_Device_define_eq (R : Value → Heap → Prop) (d : Addr) (offset : Int) (width : Int) (v : Int) (writable : Int) (H : Heap) : wpF Try.prog Try.f22 [(12, .int .i64 0)] [] [(1, [12], [0, 1, 3, 4, 11])] [19] [.pointer (some d), .int .i64 offset, .int .i64 width, .int .u64 v, .int .u64 writable] H R = F_pciconf_Device_define R d offset width v writable H := by kernel_rfl

theorem F_pciconf_Device_define_ok {R : Value → Heap → Prop} (d : Addr) (offset : Int) (width : Int) (v : Int) (writable : Int) {H : Heap} (h : F_pciconf_Device_define R d offset width v writable H) : CallsH Try.prog n_pciconf_Device_define #[.pointer (some d), .int .i64 offset, .int .i64 width, .int .u64 v, .int .u64 writable] H R :=
  wpF_ok Try.func22 (F_pciconf_Device_define_eq R d offset width v writable H) h

/-! ### 23: (*platformfw/pciconf.Device).defineBar -/

def F_pciconf_Device_defineBar (R : Value → Heap → Prop) (d : Addr) (offset : Int) (bar_0 : Int) (bar_1 : Int) (H : Heap) : Prop :=
  letH (H.push (.cells #[.int .i64 bar_0, .int .i64 bar_1] t_api_Bar (0, 0))) (fun H1 : Heap =>
  ∃ x : Int, rd H1 ((⟨H.size, 0, none⟩ : Addr).add 1) = some (.int .i64 x) ∧ (
  0 ≤ x ∧ (
  letV (IntKind.u64.wrap ((18446744073709551615 : Int) * 2 ^ (min x.toNat IntKind.u64.bits))) (fun kept : Int =>
  ∃ x1 : Int, rd H1 (⟨H.size, 0, none⟩ : Addr) = some (.int .i64 x1) ∧ (
  iteB (x1 == (1 : Int)) (
  CallsH Try.prog n_pciconf_Device_define #[.pointer (some d), .int .i64 offset, .int .i64 (4 : Int), .int .u64 (1 : Int), .int .u64 kept] H1 (fun v H2 =>
  v = .tuple #[] ∧ (
  R (.tuple #[]) H2))) (
  iteB (x1 == (2 : Int)) (
  CallsH Try.prog n_pciconf_Device_define #[.pointer (some d), .int .i64 offset, .int .i64 (4 : Int), .int .u64 (0 : Int), .int .u64 kept] H1 (fun v1 H3 =>
  v1 = .tuple #[] ∧ (
  R (.tuple #[]) H3))) (
  iteB (x1 == (3 : Int)) (
  CallsH Try.prog n_pciconf_Device_define #[.pointer (some d), .int .i64 offset, .int .i64 (8 : Int), .int .u64 (4 : Int), .int .u64 kept] H1 (fun v2 H4 =>
  v2 = .tuple #[] ∧ (
  R (.tuple #[]) H4))) (
  iteB (x1 == (4 : Int)) (
  CallsH Try.prog n_pciconf_Device_define #[.pointer (some d), .int .i64 offset, .int .i64 (8 : Int), .int .u64 (12 : Int), .int .u64 kept] H1 (fun v3 H5 =>
  v3 = .tuple #[] ∧ (
  R (.tuple #[]) H5))) (
  R (.tuple #[]) H1)))))))))

theorem F_pciconf_Device_defineBar_eq (R : Value → Heap → Prop) (d : Addr) (offset : Int) (bar_0 : Int) (bar_1 : Int) (H : Heap) : wpF Try.prog Try.f23 [] [] [] [19] [.pointer (some d), .int .i64 offset, .agg #[.int .i64 bar_0, .int .i64 bar_1]] H R = F_pciconf_Device_defineBar R d offset bar_0 bar_1 H := by kernel_rfl

theorem F_pciconf_Device_defineBar_ok {R : Value → Heap → Prop} (d : Addr) (offset : Int) (bar_0 : Int) (bar_1 : Int) {H : Heap} (h : F_pciconf_Device_defineBar R d offset bar_0 bar_1 H) : CallsH Try.prog n_pciconf_Device_defineBar #[.pointer (some d), .int .i64 offset, .agg #[.int .i64 bar_0, .int .i64 bar_1]] H R :=
  wpF_ok Try.func23 (F_pciconf_Device_defineBar_eq R d offset bar_0 bar_1 H) h

/-! ### 24: (*platformfw/pciconf.Device).defineBridge -/

def F_pciconf_Device_defineBridge (R : Value → Heap → Prop) (d : Addr) (H : Heap) : Prop :=
  CallsH Try.prog n_pciconf_Device_define #[.pointer (some d), .int .i64 (14 : Int), .int .i64 (1 : Int), .int .u64 (1 : Int), .int .u64 (0 : Int)] H (fun v H1 =>
  v = .tuple #[] ∧ (
  CallsH Try.prog n_pciconf_Device_define #[.pointer (some d), .int .i64 (24 : Int), .int .i64 (3 : Int), .int .u64 (0 : Int), .int .u64 (16777215 : Int)] H1 (fun v1 H2 =>
  v1 = .tuple #[] ∧ (
  CallsH Try.prog n_pciconf_Device_define #[.pointer (some d), .int .i64 (28 : Int), .int .i64 (2 : Int), .int .u64 (0 : Int), .int .u64 (61680 : Int)] H2 (fun v2 H3 =>
  v2 = .tuple #[] ∧ (
  CallsH Try.prog n_pciconf_Device_define #[.pointer (some d), .int .i64 (32 : Int), .int .i64 (4 : Int), .int .u64 (0 : Int), .int .u64 (4293984240 : Int)] H3 (fun v3 H4 =>
  v3 = .tuple #[] ∧ (
  ∃ x : Bool, rd H4 (d.add 514) = some (.bool x) ∧ (
  iteB x (
  CallsH Try.prog n_pciconf_Device_define #[.pointer (some d), .int .i64 (36 : Int), .int .i64 (4 : Int), .int .u64 (65537 : Int), .int .u64 (4293984240 : Int)] H4 (fun v4 H5 =>
  v4 = .tuple #[] ∧ (
  CallsH Try.prog n_pciconf_Device_define #[.pointer (some d), .int .i64 (40 : Int), .int .i64 (8 : Int), .int .u64 (0 : Int), .int .u64 (18446744073709551615 : Int)] H5 (fun v5 H6 =>
  v5 = .tuple #[] ∧ (
  R (.tuple #[]) H6))))) (
  R (.tuple #[]) H4))))))))))

theorem F_pciconf_Device_defineBridge_eq (R : Value → Heap → Prop) (d : Addr) (H : Heap) : wpF Try.prog Try.f24 [] [] [] [19] [.pointer (some d)] H R = F_pciconf_Device_defineBridge R d H := by kernel_rfl

theorem F_pciconf_Device_defineBridge_ok {R : Value → Heap → Prop} (d : Addr) {H : Heap} (h : F_pciconf_Device_defineBridge R d H) : CallsH Try.prog n_pciconf_Device_defineBridge #[.pointer (some d)] H R :=
  wpF_ok Try.func24 (F_pciconf_Device_defineBridge_eq R d H) h

/-! ### 25: platformfw/pciconf.validBar -/

def F_pciconf_validBar_k1 (R : Value → Heap → Prop) (l : Sl) (i : Int) (size : Int) (x1 : Bool) (H1 : Heap) : Prop :=
  iteB x1 (
  iteB (decide (size ≥ (4 : Int))) (
  iteB (decide (size ≤ (40 : Int))) (
  iteB (decide ((IntKind.i64.wrap (i + (1 : Int))) < (l.n : Int))) (
  0 ≤ (IntKind.i64.wrap (i + (1 : Int))) ∧ (IntKind.i64.wrap (i + (1 : Int))) < (l.n : Int) ∧ (unSome l.p (fun a2 =>
  ∃ x2 : Int, rd H1 (a2.add ((IntKind.i64.wrap (i + (1 : Int))).toNat * 2)) = some (.int .i64 x2) ∧ (
  R (.bool (x2 == (0 : Int))) H1)))) (
  R (.bool false) H1)) (
  R (.bool false) H1)) (
  R (.bool false) H1)) (
  R (.bool false) H1)

def F_pciconf_validBar (R : Value → Heap → Prop) (l : Sl) (i : Int) (H : Heap) : Prop :=
  0 ≤ i ∧ i < (l.n : Int) ∧ (unSome l.p (fun a =>
  ∃ size : Int, rd H ((a.add (i.toNat * 2)).add 1) = some (.int .i64 size) ∧ (
  0 ≤ i ∧ i < (l.n : Int) ∧ (unSome l.p (fun a1 =>
  ∃ x : Int, rd H (a1.add (i.toNat * 2)) = some (.int .i64 x) ∧ (
  iteB (x == (0 : Int)) (
  R (.bool (size == (0 : Int))) H) (
  iteB (x == (1 : Int)) (
  iteB (decide (size ≥ (2 : Int))) (
  R (.bool (decide (size ≤ (8 : Int)))) H) (
  R (.bool false) H)) (
  iteB (x == (2 : Int)) (
  iteB (decide (size ≥ (4 : Int))) (
  R (.bool (decide (size ≤ (31 : Int)))) H) (
  R (.bool false) H)) (
  ∃ J_ : Bool → Heap → Prop, (
  iteB (x == (3 : Int)) (
  J_ true H) (
  J_ (x == (4 : Int)) H)) ∧ (∀ x1 : Bool, ∀ H1 : Heap, J_ x1 H1 → F_pciconf_validBar_k1 R l i size x1 H1))))))))))

theorem F_pciconf_validBar_eq (R : Value → Heap → Prop) (l : Sl) (i : Int) (H : Heap) : wpF Try.prog Try.f25 [(36, .bool false)] [(11, [36], [0, 1, 5])] [] [19] [.slice l.p l.n l.c, .int .i64 i] H R = F_pciconf_validBar R l i H := by kernel_rfl

theorem F_pciconf_validBar_ok {R : Value → Heap → Prop} (l : Sl) (i : Int) {H : Heap} (h : F_pciconf_validBar R l i H) : CallsH Try.prog n_pciconf_validBar #[.slice l.p l.n l.c, .int .i64 i] H R :=
  wpF_ok Try.func25 (F_pciconf_validBar_eq R l i H) h

/-! ### 26: (*platformfw/platformfwref18.Device).set -/

def F_ref18_Device_set_r1 (R : Value → Heap → Prop) (d : Addr) (atv : Int) (n : Int) (v : Int) (mask : Int) (I_ : Int → Heap → Prop) (M_ : Int → Heap → Nat) (i : Int) (H1 : Heap) : Prop :=
  iteB (decide (i < n)) (
  0 ≤ (IntKind.u64.wrap (IntKind.i64.wrap ((8 : Int) * i))) ∧ (
  0 ≤ (IntKind.u64.wrap (IntKind.i64.wrap ((8 : Int) * i))) ∧ (
  0 ≤ (IntKind.i64.wrap (atv + i)) ∧ (IntKind.i64.wrap (atv + i)) < ((256 : Nat) : Int) ∧ (okRow H1 ((d.add 11).add ((IntKind.i64.wrap (atv + i)).toNat * 1)) 1 ∧ (
  letH (wrs H1 ((d.add 11).add ((IntKind.i64.wrap (atv + i)).toNat * 1)) [.int .u8 (IntKind.u8.wrap (v.fdiv (2 ^ (min (IntKind.u64.wrap (IntKind.i64.wrap ((8 : Int) * i))).toNat IntKind.u64.bits))))]) (fun H2 : Heap =>
  0 ≤ (IntKind.i64.wrap (atv + i)) ∧ (IntKind.i64.wrap (atv + i)) < ((256 : Nat) : Int) ∧ (okRow H2 ((d.add 267).add ((IntKind.i64.wrap (atv + i)).toNat * 1)) 1 ∧ (
  letH (wrs H2 ((d.add 267).add ((IntKind.i64.wrap (atv + i)).toNat * 1)) [.int .u8 (IntKind.u8.wrap (mask.fdiv (2 ^ (min (IntKind.u64.wrap (IntKind.i64.wrap ((8 : Int) * i))).toNat IntKind.u64.bits))))]) (fun H3 : Heap =>
  letV (IntKind.i64.wrap (i + (1 : Int))) (fun i1 : Int =>
  I_ i1 H3 ∧ M_ i1 H3 < M_ i H1)))))))))) (
  R (.tuple #[]) H1)

def F_ref18_Device_set (R : Value → Heap → Prop) (d : Addr) (atv : Int) (n : Int) (v : Int) (mask : Int) (H : Heap) : Prop :=
  ∃ I_ : Int → Heap → Prop, ∃ M_ : Int → Heap → Nat, I_ (0 : Int) H ∧ (∀ i : Int, ∀ H1 : Heap, I_ i H1 → F_ref18_Device_set_r1 R d atv n v mask I_ M_ i H1)

theorem F_ref18_Device_set_eq (R : Value → Heap → Prop) (d : Addr) (atv : Int) (n : Int) (v : Int) (mask : Int) (H : Heap) : wpF Try.prog Try.f26 [(10, .int .i64 0)] [] [(1, [10], [0, 1, 2, 3, 4])] [19] [.pointer (some d), .int .i64 atv, .int .i64 n, .int .u64 v, .int .u64 mask] H R = F_ref18_Device_set R d atv n v mask H := by kernel_rfl

theorem F_ref18_Device_set_ok {R : Value → Heap → Prop} (d : Addr) (atv : Int) (n : Int) (v : Int) (mask : Int) {H : Heap} (h : F_ref18_Device_set R d atv n v mask H) : CallsH Try.prog n_ref18_Device_set #[.pointer (some d), .int .i64 atv, .int .i64 n, .int .u64 v, .int .u64 mask] H R :=
  wpF_ok Try.func26 (F_ref18_Device_set_eq R d atv n v mask H) h

/-! ### 27: platformfw/platformfwref18.bar -/

def F_ref18_bar (R : Value → Heap → Prop) (f_0 : Int) (f_1 : Int) (f_2 : Int) (f_3 : Int) (f_4 : Bool) (f_5 : Bool) (f_6 : Bool) (f_7 : Int) (f_8 : Int) (f_9 : Int) (f_10 : Sl) (i : Int) (H : Heap) : Prop :=
  letH (H.push (.cells #[.int .i64 f_0, .int .i64 f_1, .int .i64 f_2, .int .i64 f_3, .bool f_4, .bool f_5, .bool f_6, .int .i64 f_7, .int .i64 f_8, .int .i64 f_9, .slice f_10.p f_10.n f_10.c] t_api_Function (0, 0))) (fun H1 : Heap =>
  letH (H1.push (.cells #[.int .i64 (0 : Int), .int .i64 (0 : Int)] t_api_Bar (0, 0))) (fun H2 : Heap =>
  iteB (decide (i < (0 : Int))) (
  okRow H2 (⟨H1.size, 0, none⟩ : Addr) 2 ∧ (
  letH (wrs H2 (⟨H1.size, 0, none⟩ : Addr) [.int .i64 (0 : Int), .int .i64 (0 : Int)]) (fun H3 : Heap =>
  ∃ r : Int, rd H3 (⟨H1.size, 0, none⟩ : Addr) = some (.int .i64 r) ∧ ∃ r1 : Int, rd H3 ((⟨H1.size, 0, none⟩ : Addr).add 1) = some (.int .i64 r1) ∧ (
  R (.agg #[.int .i64 r, .int .i64 r1]) H3)))) (
  ∃ x : Sl, rd H2 ((⟨H.size, 0, none⟩ : Addr).add 10) = some (.slice x.p x.n x.c) ∧ (
  iteB (decide (i ≥ (x.n : Int))) (
  okRow H2 (⟨H1.size, 0, none⟩ : Addr) 2 ∧ (
  letH (wrs H2 (⟨H1.size, 0, none⟩ : Addr) [.int .i64 (0 : Int), .int .i64 (0 : Int)]) (fun H4 : Heap =>
  ∃ r2 : Int, rd H4 (⟨H1.size, 0, none⟩ : Addr) = some (.int .i64 r2) ∧ ∃ r3 : Int, rd H4 ((⟨H1.size, 0, none⟩ : Addr).add 1) = some (.int .i64 r3) ∧ (
  R (.agg #[.int .i64 r2, .int .i64 r3]) H4)))) (
  ∃ x1 : Sl, rd H2 ((⟨H.size, 0, none⟩ : Addr).add 10) = some (.slice x1.p x1.n x1.c) ∧ (
  0 ≤ i ∧ i < (x1.n : Int) ∧ (unSome x1.p (fun a =>
  ∃ x2 : Int, rd H2 (a.add (i.toNat * 2)) = some (.int .i64 x2) ∧ ∃ x3 : Int, rd H2 ((a.add (i.toNat * 2)).add 1) = some (.int .i64 x3) ∧ (
  okRow H2 (⟨H1.size, 0, none⟩ : Addr) 2 ∧ (
  letH (wrs H2 (⟨H1.size, 0, none⟩ : Addr) [.int .i64 x2, .int .i64 x3]) (fun H5 : Heap =>
  ∃ r4 : Int, rd H5 (⟨H1.size, 0, none⟩ : Addr) = some (.int .i64 r4) ∧ ∃ r5 : Int, rd H5 ((⟨H1.size, 0, none⟩ : Addr).add 1) = some (.int .i64 r5) ∧ (
  R (.agg #[.int .i64 r4, .int .i64 r5]) H5))))))))))))

theorem F_ref18_bar_eq (R : Value → Heap → Prop) (f_0 : Int) (f_1 : Int) (f_2 : Int) (f_3 : Int) (f_4 : Bool) (f_5 : Bool) (f_6 : Bool) (f_7 : Int) (f_8 : Int) (f_9 : Int) (f_10 : Sl) (i : Int) (H : Heap) : wpF Try.prog Try.f27 [] [] [] [19] [.agg #[.int .i64 f_0, .int .i64 f_1, .int .i64 f_2, .int .i64 f_3, .bool f_4, .bool f_5, .bool f_6, .int .i64 f_7, .int .i64 f_8, .int .i64 f_9, .slice f_10.p f_10.n f_10.c], .int .i64 i] H R = F_ref18_bar R f_0 f_1 f_2 f_3 f_4 f_5 f_6 f_7 f_8 f_9 f_10 i H := by kernel_rfl

theorem F_ref18_bar_ok {R : Value → Heap → Prop} (f_0 : Int) (f_1 : Int) (f_2 : Int) (f_3 : Int) (f_4 : Bool) (f_5 : Bool) (f_6 : Bool) (f_7 : Int) (f_8 : Int) (f_9 : Int) (f_10 : Sl) (i : Int) {H : Heap} (h : F_ref18_bar R f_0 f_1 f_2 f_3 f_4 f_5 f_6 f_7 f_8 f_9 f_10 i H) : CallsH Try.prog n_ref18_bar #[.agg #[.int .i64 f_0, .int .i64 f_1, .int .i64 f_2, .int .i64 f_3, .bool f_4, .bool f_5, .bool f_6, .int .i64 f_7, .int .i64 f_8, .int .i64 f_9, .slice f_10.p f_10.n f_10.c], .int .i64 i] H R :=
  wpF_ok Try.func27 (F_ref18_bar_eq R f_0 f_1 f_2 f_3 f_4 f_5 f_6 f_7 f_8 f_9 f_10 i H) h

/-! ### 28: platformfw/platformfwref18.wide -/

def F_ref18_wide (R : Value → Heap → Prop) (b_0 : Int) (b_1 : Int) (H : Heap) : Prop :=
  letH (H.push (.cells #[.int .i64 b_0, .int .i64 b_1] t_api_Bar (0, 0))) (fun H1 : Heap =>
  ∃ x : Int, rd H1 (⟨H.size, 0, none⟩ : Addr) = some (.int .i64 x) ∧ (
  iteB (x == (3 : Int)) (
  R (.bool true) H1) (
  ∃ x1 : Int, rd H1 (⟨H.size, 0, none⟩ : Addr) = some (.int .i64 x1) ∧ (
  R (.bool (x1 == (4 : Int))) H1))))

theorem F_ref18_wide_eq (R : Value → Heap → Prop) (b_0 : Int) (b_1 : Int) (H : Heap) : wpF Try.prog Try.f28 [] [] [] [19] [.agg #[.int .i64 b_0, .int .i64 b_1]] H R = F_ref18_wide R b_0 b_1 H := by kernel_rfl

theorem F_ref18_wide_ok {R : Value → Heap → Prop} (b_0 : Int) (b_1 : Int) {H : Heap} (h : F_ref18_wide R b_0 b_1 H) : CallsH Try.prog n_ref18_wide #[.agg #[.int .i64 b_0, .int .i64 b_1]] H R :=
  wpF_ok Try.func28 (F_ref18_wide_eq R b_0 b_1 H) h

/-! ### 29: platformfw/pciconf.wellFormed -/

def F_pciconf_wellFormed_k1 (R : Value → Heap → Prop) (offset : Int) (width : Int) (H1 : Heap) : Prop :=
  iteB (decide (offset ≥ (0 : Int))) (
  iteB (decide (offset < (256 : Int))) (
  width ≠ 0 ∧ (
  R (.bool ((offset.tmod width) == (0 : Int))) H1)) (
  R (.bool false) H1)) (
  R (.bool false) H1)

def F_pciconf_wellFormed (R : Value → Heap → Prop) (offset : Int) (width : Int) (H : Heap) : Prop :=
  ∃ J_ : Heap → Prop, (
  iteB (width != (1 : Int)) (
  iteB (width != (2 : Int)) (
  iteB (width != (4 : Int)) (
  R (.bool false) H) (
  J_ H)) (
  J_ H)) (
  J_ H)) ∧ (∀ H1 : Heap, J_ H1 → F_pciconf_wellFormed_k1 R offset width H1)

theorem F_pciconf_wellFormed_eq (R : Value → Heap → Prop) (offset : Int) (width : Int) (H : Heap) : wpF Try.prog Try.f29 [] [(3, [], [0, 1])] [] [19] [.int .i64 offset, .int .i64 width] H R = F_pciconf_wellFormed R offset width H := by kernel_rfl

theorem F_pciconf_wellFormed_ok {R : Value → Heap → Prop} (offset : Int) (width : Int) {H : Heap} (h : F_pciconf_wellFormed R offset width H) : CallsH Try.prog n_pciconf_wellFormed #[.int .i64 offset, .int .i64 width] H R :=
  wpF_ok Try.func29 (F_pciconf_wellFormed_eq R offset width H) h

/-! ### 30: (*platformfw/pciconf.Device).number -/

def F_pciconf_Device_number_r1 (R : Value → Heap → Prop) (d : Addr) (offset : Int) (width : Int) (I_ : Int → Int → Heap → Prop) (M_ : Int → Int → Heap → Nat) (v : Int) (x : Int) (H1 : Heap) : Prop :=
  iteB (decide (x < width)) (
  0 ≤ (IntKind.i64.wrap (offset + x)) ∧ (IntKind.i64.wrap (offset + x)) < ((256 : Nat) : Int) ∧ (∃ x1 : Int, rd H1 (d.add ((IntKind.i64.wrap (offset + x)).toNat * 1)) = some (.int .u8 x1) ∧ (
  0 ≤ (IntKind.i64.wrap ((8 : Int) * x)) ∧ (
  letV (bitsOr .u64 v (IntKind.u64.wrap ((IntKind.u64.wrap x1) * 2 ^ (min (IntKind.i64.wrap ((8 : Int) * x)).toNat IntKind.u64.bits)))) (fun v1 : Int =>
  I_ v1 (IntKind.i64.wrap (x + (1 : Int))) H1 ∧ M_ v1 (IntKind.i64.wrap (x + (1 : Int))) H1 < M_ v x H1))))) (
  R (.int .u64 v) H1)

def F_pciconf_Device_number (R : Value → Heap → Prop) (d : Addr) (offset : Int) (width : Int) (H : Heap) : Prop :=
  ∃ I_ : Int → Int → Heap → Prop, ∃ M_ : Int → Int → Heap → Nat, I_ (0 : Int) (0 : Int) H ∧ (∀ v : Int, ∀ x : Int, ∀ H1 : Heap, I_ v x H1 → F_pciconf_Device_number_r1 R d offset width I_ M_ v x H1)

theorem F_pciconf_Device_number_eq (R : Value → Heap → Prop) (d : Addr) (offset : Int) (width : Int) (H : Heap) : wpF Try.prog Try.f30 [(7, .int .u64 0), (10, .int .i64 0)] [] [(3, [7, 10], [0, 1, 9])] [19] [.pointer (some d), .int .i64 offset, .int .i64 width] H R = F_pciconf_Device_number R d offset width H := by kernel_rfl

theorem F_pciconf_Device_number_ok {R : Value → Heap → Prop} (d : Addr) (offset : Int) (width : Int) {H : Heap} (h : F_pciconf_Device_number R d offset width H) : CallsH Try.prog n_pciconf_Device_number #[.pointer (some d), .int .i64 offset, .int .i64 width] H R :=
  wpF_ok Try.func30 (F_pciconf_Device_number_eq R d offset width H) h

/-! ### 31: platformfw/platformfwref18.formed -/

def F_ref18_formed (R : Value → Heap → Prop) (atv : Int) (width : Int) (H : Heap) : Prop :=
  iteB (width == (1 : Int)) (
  iteB (decide (atv ≥ (0 : Int))) (
  iteB (decide (atv ≤ (255 : Int))) (
  width ≠ 0 ∧ (
  R (.bool ((atv.tmod width) == (0 : Int))) H)) (
  R (.bool false) H)) (
  R (.bool false) H)) (
  iteB (width == (2 : Int)) (
  iteB (decide (atv ≥ (0 : Int))) (
  iteB (decide (atv ≤ (255 : Int))) (
  width ≠ 0 ∧ (
  R (.bool ((atv.tmod width) == (0 : Int))) H)) (
  R (.bool false) H)) (
  R (.bool false) H)) (
  iteB (width == (4 : Int)) (
  iteB (decide (atv ≥ (0 : Int))) (
  iteB (decide (atv ≤ (255 : Int))) (
  width ≠ 0 ∧ (
  R (.bool ((atv.tmod width) == (0 : Int))) H)) (
  R (.bool false) H)) (
  R (.bool false) H)) (
  R (.bool false) H)))

theorem F_ref18_formed_eq (R : Value → Heap → Prop) (atv : Int) (width : Int) (H : Heap) : wpF Try.prog Try.f31 [] [] [] [19] [.int .i64 atv, .int .i64 width] H R = F_ref18_formed R atv width H := by kernel_rfl

theorem F_ref18_formed_ok {R : Value → Heap → Prop} (atv : Int) (width : Int) {H : Heap} (h : F_ref18_formed R atv width H) : CallsH Try.prog n_ref18_formed #[.int .i64 atv, .int .i64 width] H R :=
  wpF_ok Try.func31 (F_ref18_formed_eq R atv width H) h

/-! ### 32: (*platformfw/pciconf.Device).enabled -/

def F_pciconf_Device_enabled (R : Value → Heap → Prop) (d : Addr) (classv : Int) (H : Heap) : Prop :=
  iteB (classv == (0 : Int)) (
  0 ≤ (4 : Int) ∧ (4 : Int) < ((256 : Nat) : Int) ∧ (∃ x : Int, rd H (d.add ((4 : Int).toNat * 1)) = some (.int .u8 x) ∧ (
  R (.bool ((bitsAnd .u8 x (1 : Int)) != (0 : Int))) H))) (
  0 ≤ (4 : Int) ∧ (4 : Int) < ((256 : Nat) : Int) ∧ (∃ x1 : Int, rd H (d.add ((4 : Int).toNat * 1)) = some (.int .u8 x1) ∧ (
  R (.bool ((bitsAnd .u8 x1 (2 : Int)) != (0 : Int))) H)))

theorem F_pciconf_Device_enabled_eq (R : Value → Heap → Prop) (d : Addr) (classv : Int) (H : Heap) : wpF Try.prog Try.f32 [] [] [] [19] [.pointer (some d), .int .i64 classv] H R = F_pciconf_Device_enabled R d classv H := by kernel_rfl

theorem F_pciconf_Device_enabled_ok {R : Value → Heap → Prop} (d : Addr) (classv : Int) {H : Heap} (h : F_pciconf_Device_enabled R d classv H) : CallsH Try.prog n_pciconf_Device_enabled #[.pointer (some d), .int .i64 classv] H R :=
  wpF_ok Try.func32 (F_pciconf_Device_enabled_eq R d classv H) h

/-! ### 33: (*platformfw/pciconf.Device).appendWindow -/

def F_pciconf_Device_appendWindow (R : Value → Heap → Prop) (d : Addr) (l : Sl) (classv : Int) (first : Int) (last : Int) (H : Heap) : Prop :=
  iteB (decide (first > last)) (
  R (.slice l.p l.n l.c) H) (
  CallsH Try.prog n_pciconf_Device_enabled #[.pointer (some d), .int .i64 classv] H (fun v H1 =>
  ∃ x : Bool, v = .bool x ∧ (
  letH (H1.push (.cells #[.int .i64 (IntKind.i64.wrap ((-1 : Int) - classv)), .int .i64 classv, .int .u64 first, .int .u64 (IntKind.u64.wrap ((IntKind.u64.wrap (last - first)) + (1 : Int))), .bool x] t_api_Window (0, 0))) (fun H2 : Heap =>
  runH Try.prog (Builtin.append_ #[t_sl_api_Window, t_sl_api_Window] t_sl_api_Window #[.slice l.p l.n l.c, .slice (some (⟨H1.size, 0, none⟩ : Addr)) 1 1]) H2 (fun v1 H3 =>
  ∃ x1 : Sl, v1 = .slice x1.p x1.n x1.c ∧ (
  R (.slice x1.p x1.n x1.c) H3))))))

theorem F_pciconf_Device_appendWindow_eq (R : Value → Heap → Prop) (d : Addr) (l : Sl) (classv : Int) (first : Int) (last : Int) (H : Heap) : wpF Try.prog Try.f33 [] [] [] [19] [.pointer (some d), .slice l.p l.n l.c, .int .i64 classv, .int .u64 first, .int .u64 last] H R = F_pciconf_Device_appendWindow R d l classv first last H := by kernel_rfl

theorem F_pciconf_Device_appendWindow_ok {R : Value → Heap → Prop} (d : Addr) (l : Sl) (classv : Int) (first : Int) (last : Int) {H : Heap} (h : F_pciconf_Device_appendWindow R d l classv first last H) : CallsH Try.prog n_pciconf_Device_appendWindow #[.pointer (some d), .slice l.p l.n l.c, .int .i64 classv, .int .u64 first, .int .u64 last] H R :=
  wpF_ok Try.func33 (F_pciconf_Device_appendWindow_eq R d l classv first last H) h

end Go.Proofs.Ytankllejpldleaa
