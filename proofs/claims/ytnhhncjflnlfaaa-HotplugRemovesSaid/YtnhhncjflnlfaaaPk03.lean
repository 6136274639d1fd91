import Derived.Test.YtnhhncjflnlfaaaProg
import Derived.Test.YtnhhncjflnlfaaaPk02

section
/-
  The shallow readings of this seat's functions, written by a program (gen.py); the kernel holds each against the loaded program.
-/
namespace Go.Proofs.Ytnhhncjflnlfaaa
open Go.Eng
abbrev n_law23_HotplugRemoves : FuncId := 3
abbrev n_law23_HotplugAdds : FuncId := 4
abbrev n_law23_HotplugAddThenRemove : FuncId := 5
abbrev n_gen_Topology : FuncId := 6
abbrev n_gen_Host : FuncId := 7
abbrev n_law23_port : FuncId := 8
abbrev n_ref21_Assign : FuncId := 9
abbrev n_hotplug_Remove : FuncId := 10
abbrev n_ref21_Remove : FuncId := 11
abbrev n_law23_awake : FuncId := 12
abbrev n_help_EqualFunc_api_Function : FuncId := 13
abbrev n_law23_same : FuncId := 14
abbrev n_help_Equal_api_Assignment : FuncId := 15
abbrev n_help_Equal_int : FuncId := 16
abbrev n_law23_card : FuncId := 17
abbrev n_hotplug_Add : FuncId := 18
abbrev n_ref21_Add : FuncId := 19
abbrev n_help_Mod : FuncId := 20
abbrev n_gen_bars : FuncId := 21
abbrev n_gen_ranges : FuncId := 22
abbrev n_ref18_Valid : FuncId := 23
abbrev n_ref21_ValidHost : FuncId := 24
abbrev n_ref18_Needs : FuncId := 25
abbrev n_ref21_place : FuncId := 26
abbrev n_ref21_Space : FuncId := 27
abbrev n_ref21_at : FuncId := 28
abbrev n_enumerate_Valid : FuncId := 29
abbrev n_hotplug_isPort : FuncId := 30
abbrev n_hotplug_copyFunction : FuncId := 31
abbrev n_ref21_port : FuncId := 32
abbrev n_ref21_under : FuncId := 33
abbrev n_hotplug_NewSlot : FuncId := 34
abbrev n_hotplug_Slot_Handle : FuncId := 35
abbrev n_hotplug_Slot_Advance : FuncId := 36
abbrev n_hotplug_Slot_State : FuncId := 37
abbrev n_help_Equal_api_Bar : FuncId := 38
abbrev n_ref18_Below : FuncId := 39
abbrev n_ref18_ValidFunction : FuncId := 40
abbrev n_ref21_within : FuncId := 41
abbrev n_ref18_Class : FuncId := 42
abbrev n_ref18_window : FuncId := 43
abbrev n_ref18_NeedsBelow : FuncId := 44
abbrev n_ref21_Place : FuncId := 45
abbrev n_ref21_Free : FuncId := 46
abbrev n_pciconf_Valid : FuncId := 47
abbrev n_slices_Clone_sl_api_Bar_api_Bar : FuncId := 48
abbrev n_hotplug_Slot_enter : FuncId := 49
abbrev n_hotplug_saturatingSum : FuncId := 50
abbrev n_ref18_Registers : FuncId := 51
abbrev n_ref21_ValidRanges : FuncId := 52
abbrev n_ref18_bar : FuncId := 53
abbrev n_ref18_above : FuncId := 54
abbrev n_ref18_WindowSize : FuncId := 55
abbrev n_ref21_items : FuncId := 56
abbrev n_ref21_merge : FuncId := 57
abbrev n_ref21_up : FuncId := 58
abbrev n_ref21_refusal : FuncId := 59
abbrev n_ref21_remove : FuncId := 60
abbrev n_pciconf_registers : FuncId := 61
abbrev n_pciconf_validBar : FuncId := 62
abbrev n_ref21_demand : FuncId := 63
abbrev n_ref21_Blocks : FuncId := 64
abbrev t_int64 : TypeId := 2
abbrev t_int : TypeId := 3
abbrev t_bool : TypeId := 4
abbrev t_uint8 : TypeId := 5
abbrev t_abi_BoundsErrorCode : TypeId := 6
abbrev t_runtime_boundsError : TypeId := 8
abbrev t_string : TypeId := 9
abbrev t_runtime_errorString : TypeId := 10
abbrev t_runtime_plainError : TypeId := 11
abbrev t_uintptr : TypeId := 12
abbrev t_runtime_errorAddressString : TypeId := 14
abbrev t_p_runtime_TypeAssertionError : TypeId := 15
abbrev t_p_runtime_PanicNilError : TypeId := 16
abbrev t_p_abi_Type : TypeId := 17
abbrev t_maps_unhashableTypeError : TypeId := 19
abbrev t_int32 : TypeId := 21
abbrev t_sl_api_Function : TypeId := 22
abbrev t_sl_api_Range : TypeId := 23
abbrev t_sl_api_IntLink : TypeId := 24
abbrev t_sl_api_Route : TypeId := 25
abbrev t_api_Host : TypeId := 27
abbrev t_api_Need : TypeId := 29
abbrev t_uint64 : TypeId := 30
abbrev t_api_Assignment : TypeId := 32
abbrev t_sl_api_Assignment : TypeId := 36
abbrev t_api_Certificate : TypeId := 38
abbrev t_api_Errno : TypeId := 39
abbrev t_sl_int : TypeId := 42
abbrev t_sl_api_Bar : TypeId := 47
abbrev t_api_Function : TypeId := 49
abbrev t_map_2_int_bool : TypeId := 59
abbrev t_2_int : TypeId := 61
abbrev t_api_Range : TypeId := 65
abbrev t_uint32 : TypeId := 66
abbrev t_api_IntLink : TypeId := 68
abbrev t_api_Route : TypeId := 70
abbrev t_sl_api_Need : TypeId := 73
abbrev t_uint : TypeId := 80
abbrev t_p_hotplug_Slot : TypeId := 84
abbrev t_api_Bar : TypeId := 93
abbrev t_3_int : TypeId := 100
abbrev t_sl_uint64 : TypeId := 102
abbrev t_map_enumerate_place_bool : TypeId := 106
abbrev t_enumerate_place : TypeId := 108
abbrev t_hotplug_Slot : TypeId := 111
abbrev t_runtime_TypeAssertionError : TypeId := 129
abbrev t_0_p_runtime_PanicNilError : TypeId := 130
abbrev t_runtime_PanicNilError : TypeId := 132
abbrev t_abi_TFlag : TypeId := 133
abbrev t_abi_Kind : TypeId := 134
abbrev t_p_uint8 : TypeId := 136
abbrev t_abi_NameOff : TypeId := 137
abbrev t_abi_TypeOff : TypeId := 138
abbrev t_abi_Type : TypeId := 140
abbrev t_unsafe_Pointer : TypeId := 141

/-! ### 3: platformfw/platformfwlaw23.HotplugRemoves -/

def F_law23_HotplugRemoves_k1 (R : Value → Heap → Prop) (H1 : Heap) (t : Sl) (H4 : Heap) (p1 : Int) (H8 : Heap) : Prop :=
  ∃ x16 : Int, rd H8 (⟨H4.size, 0, none⟩ : Addr) = some (.int .i64 x16) ∧ ∃ x17 : Sl, rd H8 ((⟨H4.size, 0, none⟩ : Addr).add 1) = some (.slice x17.p x17.n x17.c) ∧ ∃ x18 : Sl, rd H8 ((⟨H4.size, 0, none⟩ : Addr).add 2) = some (.slice x18.p x18.n x18.c) ∧ ∃ x19 : Sl, rd H8 ((⟨H4.size, 0, none⟩ : Addr).add 3) = some (.slice x19.p x19.n x19.c) ∧ ∃ x20 : Sl, rd H8 ((⟨H4.size, 0, none⟩ : Addr).add 4) = some (.slice x20.p x20.n x20.c) ∧ ∃ x21 : Sl, rd H8 ((⟨H4.size, 0, none⟩ : Addr).add 5) = some (.slice x21.p x21.n x21.c) ∧ ∃ x22 : Sl, rd H8 ((⟨H4.size, 0, none⟩ : Addr).add 6) = some (.slice x22.p x22.n x22.c) ∧ ∃ x23 : Sl, rd H8 ((⟨H4.size, 0, none⟩ : Addr).add 7) = some (.slice x23.p x23.n x23.c) ∧ (
  CallsH Try.prog n_ref21_Assign #[.slice t.p t.n t.c, .agg #[.int .i64 x16, .slice x17.p x17.n x17.c, .slice x18.p x18.n x18.c, .slice x19.p x19.n x19.c, .slice x20.p x20.n x20.c, .slice x21.p x21.n x21.c, .slice x22.p x22.n x22.c, .slice x23.p x23.n x23.c]] H8 (fun v3 H9 =>
  ∃ x24 : Sl, ∃ x25 : Int, ∃ x26 : Int, ∃ x27 : Int, ∃ x28 : Int, ∃ x29 : Int, v3 = .tuple #[.slice x24.p x24.n x24.c, .agg #[.int .i64 x25, .int .i64 x26, .int .u64 x27, .int .u64 x28], .int .i64 x29] ∧ (
  letH (H9.push (.cells #[.int .i64 (0 : Int), .int .i64 (0 : Int), .int .u64 (0 : Int), .int .u64 (0 : Int)] t_api_Certificate (0, 0))) (fun H10 : Heap =>
  okRow H10 (⟨H9.size, 0, none⟩ : Addr) 4 ∧ (
  letH (wrs H10 (⟨H9.size, 0, none⟩ : Addr) [.int .i64 x25, .int .i64 x26, .int .u64 x27, .int .u64 x28]) (fun H11 : Heap =>
  ∃ x30 : Int, rd H11 (⟨H1.size, 0, none⟩ : Addr) = some (.int .i64 x30) ∧ ∃ x31 : Int, rd H11 ((⟨H1.size, 0, none⟩ : Addr).add 1) = some (.int .i64 x31) ∧ ∃ x32 : Int, rd H11 ((⟨H1.size, 0, none⟩ : Addr).add 2) = some (.int .i64 x32) ∧ ∃ x33 : Int, rd H11 ((⟨H1.size, 0, none⟩ : Addr).add 3) = some (.int .i64 x33) ∧ ∃ x34 : Int, rd H11 ((⟨H1.size, 0, none⟩ : Addr).add 4) = some (.int .u64 x34) ∧ (
  letH (H11.push (.cells #[.int .i64 x30, .int .i64 x31, .int .i64 x32, .int .i64 x33, .int .u64 x34] t_api_Assignment (0, 0))) (fun H12 : Heap =>
  runH Try.prog (Builtin.append_ #[t_sl_api_Assignment, t_sl_api_Assignment] t_sl_api_Assignment #[.slice x24.p x24.n x24.c, .slice (some (⟨H11.size, 0, none⟩ : Addr)) 1 1]) H12 (fun v4 H13 =>
  ∃ x35 : Sl, v4 = .slice x35.p x35.n x35.c ∧ (
  CallsH Try.prog n_hotplug_Remove #[.slice t.p t.n t.c, .slice x35.p x35.n x35.c, .int .i64 p1] H13 (fun v5 H14 =>
  ∃ x36 : Sl, ∃ x37 : Sl, ∃ x38 : Sl, ∃ x39 : Int, v5 = .tuple #[.slice x36.p x36.n x36.c, .slice x37.p x37.n x37.c, .slice x38.p x38.n x38.c, .int .i64 x39] ∧ (
  CallsH Try.prog n_ref21_Remove #[.slice t.p t.n t.c, .slice x35.p x35.n x35.c, .int .i64 p1] H14 (fun v6 H15 =>
  ∃ x40 : Sl, ∃ x41 : Sl, ∃ x42 : Sl, ∃ x43 : Int, v6 = .tuple #[.slice x40.p x40.n x40.c, .slice x41.p x41.n x41.c, .slice x42.p x42.n x42.c, .int .i64 x43] ∧ (
  CallsH Try.prog n_law23_awake #[] H15 (fun v7 H16 =>
  ∃ x44 : Bool, v7 = .bool x44 ∧ (
  iteB x44 (
  CallsH Try.prog n_help_EqualFunc_api_Function #[.slice x36.p x36.n x36.c, .slice x40.p x40.n x40.c, .func (.func 14) #[] #[]] H16 (fun v8 H17 =>
  ∃ x45 : Bool, v8 = .bool x45 ∧ (
  iteB x45 (
  CallsH Try.prog n_help_Equal_api_Assignment #[.slice x37.p x37.n x37.c, .slice x41.p x41.n x41.c] H17 (fun v9 H18 =>
  ∃ x46 : Bool, v9 = .bool x46 ∧ (
  iteB x46 (
  CallsH Try.prog n_help_Equal_int #[.slice x38.p x38.n x38.c, .slice x42.p x42.n x42.c] H18 (fun v10 H19 =>
  ∃ x47 : Bool, v10 = .bool x47 ∧ (
  iteB x47 (
  R (.bool (x39 == x43)) H19) (
  R (.bool false) H19)))) (
  R (.bool false) H18)))) (
  R (.bool false) H17)))) (
  R (.bool false) H16)))))))))))))))))

def F_law23_HotplugRemoves_k2 (R : Value → Heap → Prop) (H1 : Heap) (H3 : Heap) (t : Sl) (p3 : Int) (H24 : Heap) : Prop :=
  ∃ x56 : Int, rd H24 (⟨H3.size, 0, none⟩ : Addr) = some (.int .i64 x56) ∧ ∃ x57 : Sl, rd H24 ((⟨H3.size, 0, none⟩ : Addr).add 1) = some (.slice x57.p x57.n x57.c) ∧ ∃ x58 : Sl, rd H24 ((⟨H3.size, 0, none⟩ : Addr).add 2) = some (.slice x58.p x58.n x58.c) ∧ ∃ x59 : Sl, rd H24 ((⟨H3.size, 0, none⟩ : Addr).add 3) = some (.slice x59.p x59.n x59.c) ∧ ∃ x60 : Sl, rd H24 ((⟨H3.size, 0, none⟩ : Addr).add 4) = some (.slice x60.p x60.n x60.c) ∧ ∃ x61 : Sl, rd H24 ((⟨H3.size, 0, none⟩ : Addr).add 5) = some (.slice x61.p x61.n x61.c) ∧ ∃ x62 : Sl, rd H24 ((⟨H3.size, 0, none⟩ : Addr).add 6) = some (.slice x62.p x62.n x62.c) ∧ ∃ x63 : Sl, rd H24 ((⟨H3.size, 0, none⟩ : Addr).add 7) = some (.slice x63.p x63.n x63.c) ∧ (
  CallsH Try.prog n_ref21_Assign #[.slice t.p t.n t.c, .agg #[.int .i64 x56, .slice x57.p x57.n x57.c, .slice x58.p x58.n x58.c, .slice x59.p x59.n x59.c, .slice x60.p x60.n x60.c, .slice x61.p x61.n x61.c, .slice x62.p x62.n x62.c, .slice x63.p x63.n x63.c]] H24 (fun v13 H25 =>
  ∃ x64 : Sl, ∃ x65 : Int, ∃ x66 : Int, ∃ x67 : Int, ∃ x68 : Int, ∃ x69 : Int, v13 = .tuple #[.slice x64.p x64.n x64.c, .agg #[.int .i64 x65, .int .i64 x66, .int .u64 x67, .int .u64 x68], .int .i64 x69] ∧ (
  letH (H25.push (.cells #[.int .i64 (0 : Int), .int .i64 (0 : Int), .int .u64 (0 : Int), .int .u64 (0 : Int)] t_api_Certificate (0, 0))) (fun H26 : Heap =>
  okRow H26 (⟨H25.size, 0, none⟩ : Addr) 4 ∧ (
  letH (wrs H26 (⟨H25.size, 0, none⟩ : Addr) [.int .i64 x65, .int .i64 x66, .int .u64 x67, .int .u64 x68]) (fun H27 : Heap =>
  ∃ x70 : Int, rd H27 (⟨H1.size, 0, none⟩ : Addr) = some (.int .i64 x70) ∧ ∃ x71 : Int, rd H27 ((⟨H1.size, 0, none⟩ : Addr).add 1) = some (.int .i64 x71) ∧ ∃ x72 : Int, rd H27 ((⟨H1.size, 0, none⟩ : Addr).add 2) = some (.int .i64 x72) ∧ ∃ x73 : Int, rd H27 ((⟨H1.size, 0, none⟩ : Addr).add 3) = some (.int .i64 x73) ∧ ∃ x74 : Int, rd H27 ((⟨H1.size, 0, none⟩ : Addr).add 4) = some (.int .u64 x74) ∧ (
  letH (H27.push (.cells #[.int .i64 x70, .int .i64 x71, .int .i64 x72, .int .i64 x73, .int .u64 x74] t_api_Assignment (0, 0))) (fun H28 : Heap =>
  runH Try.prog (Builtin.append_ #[t_sl_api_Assignment, t_sl_api_Assignment] t_sl_api_Assignment #[.slice x64.p x64.n x64.c, .slice (some (⟨H27.size, 0, none⟩ : Addr)) 1 1]) H28 (fun v14 H29 =>
  ∃ x75 : Sl, v14 = .slice x75.p x75.n x75.c ∧ (
  CallsH Try.prog n_hotplug_Remove #[.slice t.p t.n t.c, .slice x75.p x75.n x75.c, .int .i64 p3] H29 (fun v15 H30 =>
  ∃ x76 : Sl, ∃ x77 : Sl, ∃ x78 : Sl, ∃ x79 : Int, v15 = .tuple #[.slice x76.p x76.n x76.c, .slice x77.p x77.n x77.c, .slice x78.p x78.n x78.c, .int .i64 x79] ∧ (
  CallsH Try.prog n_ref21_Remove #[.slice t.p t.n t.c, .slice x75.p x75.n x75.c, .int .i64 p3] H30 (fun v16 H31 =>
  ∃ x80 : Sl, ∃ x81 : Sl, ∃ x82 : Sl, ∃ x83 : Int, v16 = .tuple #[.slice x80.p x80.n x80.c, .slice x81.p x81.n x81.c, .slice x82.p x82.n x82.c, .int .i64 x83] ∧ (
  CallsH Try.prog n_law23_awake #[] H31 (fun v17 H32 =>
  ∃ x84 : Bool, v17 = .bool x84 ∧ (
  iteB x84 (
  CallsH Try.prog n_help_EqualFunc_api_Function #[.slice x76.p x76.n x76.c, .slice x80.p x80.n x80.c, .func (.func 14) #[] #[]] H32 (fun v18 H33 =>
  ∃ x85 : Bool, v18 = .bool x85 ∧ (
  iteB x85 (
  CallsH Try.prog n_help_Equal_api_Assignment #[.slice x77.p x77.n x77.c, .slice x81.p x81.n x81.c] H33 (fun v19 H34 =>
  ∃ x86 : Bool, v19 = .bool x86 ∧ (
  iteB x86 (
  CallsH Try.prog n_help_Equal_int #[.slice x78.p x78.n x78.c, .slice x82.p x82.n x82.c] H34 (fun v20 H35 =>
  ∃ x87 : Bool, v20 = .bool x87 ∧ (
  iteB x87 (
  R (.bool (x79 == x83)) H35) (
  R (.bool false) H35)))) (
  R (.bool false) H34)))) (
  R (.bool false) H33)))) (
  R (.bool false) H32)))))))))))))))))

def F_law23_HotplugRemoves_k3 (R : Value → Heap → Prop) (H1 : Heap) (H2 : Heap) (t1 : Sl) (p5 : Int) (H41 : Heap) : Prop :=
  ∃ x96 : Int, rd H41 (⟨H2.size, 0, none⟩ : Addr) = some (.int .i64 x96) ∧ ∃ x97 : Sl, rd H41 ((⟨H2.size, 0, none⟩ : Addr).add 1) = some (.slice x97.p x97.n x97.c) ∧ ∃ x98 : Sl, rd H41 ((⟨H2.size, 0, none⟩ : Addr).add 2) = some (.slice x98.p x98.n x98.c) ∧ ∃ x99 : Sl, rd H41 ((⟨H2.size, 0, none⟩ : Addr).add 3) = some (.slice x99.p x99.n x99.c) ∧ ∃ x100 : Sl, rd H41 ((⟨H2.size, 0, none⟩ : Addr).add 4) = some (.slice x100.p x100.n x100.c) ∧ ∃ x101 : Sl, rd H41 ((⟨H2.size, 0, none⟩ : Addr).add 5) = some (.slice x101.p x101.n x101.c) ∧ ∃ x102 : Sl, rd H41 ((⟨H2.size, 0, none⟩ : Addr).add 6) = some (.slice x102.p x102.n x102.c) ∧ ∃ x103 : Sl, rd H41 ((⟨H2.size, 0, none⟩ : Addr).add 7) = some (.slice x103.p x103.n x103.c) ∧ (
  CallsH Try.prog n_ref21_Assign #[.slice t1.p t1.n t1.c, .agg #[.int .i64 x96, .slice x97.p x97.n x97.c, .slice x98.p x98.n x98.c, .slice x99.p x99.n x99.c, .slice x100.p x100.n x100.c, .slice x101.p x101.n x101.c, .slice x102.p x102.n x102.c, .slice x103.p x103.n x103.c]] H41 (fun v24 H42 =>
  ∃ x104 : Sl, ∃ x105 : Int, ∃ x106 : Int, ∃ x107 : Int, ∃ x108 : Int, ∃ x109 : Int, v24 = .tuple #[.slice x104.p x104.n x104.c, .agg #[.int .i64 x105, .int .i64 x106, .int .u64 x107, .int .u64 x108], .int .i64 x109] ∧ (
  letH (H42.push (.cells #[.int .i64 (0 : Int), .int .i64 (0 : Int), .int .u64 (0 : Int), .int .u64 (0 : Int)] t_api_Certificate (0, 0))) (fun H43 : Heap =>
  okRow H43 (⟨H42.size, 0, none⟩ : Addr) 4 ∧ (
  letH (wrs H43 (⟨H42.size, 0, none⟩ : Addr) [.int .i64 x105, .int .i64 x106, .int .u64 x107, .int .u64 x108]) (fun H44 : Heap =>
  ∃ x110 : Int, rd H44 (⟨H1.size, 0, none⟩ : Addr) = some (.int .i64 x110) ∧ ∃ x111 : Int, rd H44 ((⟨H1.size, 0, none⟩ : Addr).add 1) = some (.int .i64 x111) ∧ ∃ x112 : Int, rd H44 ((⟨H1.size, 0, none⟩ : Addr).add 2) = some (.int .i64 x112) ∧ ∃ x113 : Int, rd H44 ((⟨H1.size, 0, none⟩ : Addr).add 3) = some (.int .i64 x113) ∧ ∃ x114 : Int, rd H44 ((⟨H1.size, 0, none⟩ : Addr).add 4) = some (.int .u64 x114) ∧ (
  letH (H44.push (.cells #[.int .i64 x110, .int .i64 x111, .int .i64 x112, .int .i64 x113, .int .u64 x114] t_api_Assignment (0, 0))) (fun H45 : Heap =>
  runH Try.prog (Builtin.append_ #[t_sl_api_Assignment, t_sl_api_Assignment] t_sl_api_Assignment #[.slice x104.p x104.n x104.c, .slice (some (⟨H44.size, 0, none⟩ : Addr)) 1 1]) H45 (fun v25 H46 =>
  ∃ x115 : Sl, v25 = .slice x115.p x115.n x115.c ∧ (
  CallsH Try.prog n_hotplug_Remove #[.slice t1.p t1.n t1.c, .slice x115.p x115.n x115.c, .int .i64 p5] H46 (fun v26 H47 =>
  ∃ x116 : Sl, ∃ x117 : Sl, ∃ x118 : Sl, ∃ x119 : Int, v26 = .tuple #[.slice x116.p x116.n x116.c, .slice x117.p x117.n x117.c, .slice x118.p x118.n x118.c, .int .i64 x119] ∧ (
  CallsH Try.prog n_ref21_Remove #[.slice t1.p t1.n t1.c, .slice x115.p x115.n x115.c, .int .i64 p5] H47 (fun v27 H48 =>
  ∃ x120 : Sl, ∃ x121 : Sl, ∃ x122 : Sl, ∃ x123 : Int, v27 = .tuple #[.slice x120.p x120.n x120.c, .slice x121.p x121.n x121.c, .slice x122.p x122.n x122.c, .int .i64 x123] ∧ (
  CallsH Try.prog n_law23_awake #[] H48 (fun v28 H49 =>
  ∃ x124 : Bool, v28 = .bool x124 ∧ (
  iteB x124 (
  CallsH Try.prog n_help_EqualFunc_api_Function #[.slice x116.p x116.n x116.c, .slice x120.p x120.n x120.c, .func (.func 14) #[] #[]] H49 (fun v29 H50 =>
  ∃ x125 : Bool, v29 = .bool x125 ∧ (
  iteB x125 (
  CallsH Try.prog n_help_Equal_api_Assignment #[.slice x117.p x117.n x117.c, .slice x121.p x121.n x121.c] H50 (fun v30 H51 =>
  ∃ x126 : Bool, v30 = .bool x126 ∧ (
  iteB x126 (
  CallsH Try.prog n_help_Equal_int #[.slice x118.p x118.n x118.c, .slice x122.p x122.n x122.c] H51 (fun v31 H52 =>
  ∃ x127 : Bool, v31 = .bool x127 ∧ (
  iteB x127 (
  R (.bool (x119 == x123)) H52) (
  R (.bool false) H52)))) (
  R (.bool false) H51)))) (
  R (.bool false) H50)))) (
  R (.bool false) H49)))))))))))))))))

def F_law23_HotplugRemoves (R : Value → Heap → Prop) (l : Sl) (h_0 : Int) (h_1 : Sl) (h_2 : Sl) (h_3 : Sl) (h_4 : Sl) (h_5 : Sl) (h_6 : Sl) (h_7 : Sl) (atv : Int) (raw : Bool) (extra_0 : Int) (extra_1 : Int) (extra_2 : Int) (extra_3 : Int) (extra_4 : Int) (H : Heap) : Prop :=
  letH (H.push (.cells #[.int .i64 h_0, .slice h_1.p h_1.n h_1.c, .slice h_2.p h_2.n h_2.c, .slice h_3.p h_3.n h_3.c, .slice h_4.p h_4.n h_4.c, .slice h_5.p h_5.n h_5.c, .slice h_6.p h_6.n h_6.c, .slice h_7.p h_7.n h_7.c] t_api_Host (0, 0))) (fun H1 : Heap =>
  letH (H1.push (.cells #[.int .i64 extra_0, .int .i64 extra_1, .int .i64 extra_2, .int .i64 extra_3, .int .u64 extra_4] t_api_Assignment (0, 0))) (fun H2 : Heap =>
  ∃ x : Int, rd H2 (⟨H.size, 0, none⟩ : Addr) = some (.int .i64 x) ∧ ∃ x1 : Sl, rd H2 ((⟨H.size, 0, none⟩ : Addr).add 1) = some (.slice x1.p x1.n x1.c) ∧ ∃ x2 : Sl, rd H2 ((⟨H.size, 0, none⟩ : Addr).add 2) = some (.slice x2.p x2.n x2.c) ∧ ∃ x3 : Sl, rd H2 ((⟨H.size, 0, none⟩ : Addr).add 3) = some (.slice x3.p x3.n x3.c) ∧ ∃ x4 : Sl, rd H2 ((⟨H.size, 0, none⟩ : Addr).add 4) = some (.slice x4.p x4.n x4.c) ∧ ∃ x5 : Sl, rd H2 ((⟨H.size, 0, none⟩ : Addr).add 5) = some (.slice x5.p x5.n x5.c) ∧ ∃ x6 : Sl, rd H2 ((⟨H.size, 0, none⟩ : Addr).add 6) = some (.slice x6.p x6.n x6.c) ∧ ∃ x7 : Sl, rd H2 ((⟨H.size, 0, none⟩ : Addr).add 7) = some (.slice x7.p x7.n x7.c) ∧ (
  (
  CallsH Try.prog n_gen_Topology #[.slice l.p l.n l.c, .int .i64 (24 : Int)] H2 (fun v H3 =>
  ∃ t : Sl, v = .slice t.p t.n t.c ∧ (
  Keeps H2 H3 [((⟨H.size, 0, none⟩ : Addr), 8)] ∧ (
  (
  CallsH Try.prog n_gen_Host #[.agg #[.int .i64 x, .slice x1.p x1.n x1.c, .slice x2.p x2.n x2.c, .slice x3.p x3.n x3.c, .slice x4.p x4.n x4.c, .slice x5.p x5.n x5.c, .slice x6.p x6.n x6.c, .slice x7.p x7.n x7.c]] H3 (fun v1 H4 =>
  ∃ x8 : Int, ∃ x9 : Sl, ∃ x10 : Sl, ∃ x11 : Sl, ∃ x12 : Sl, ∃ x13 : Sl, ∃ x14 : Sl, ∃ x15 : Sl, v1 = .agg #[.int .i64 x8, .slice x9.p x9.n x9.c, .slice x10.p x10.n x10.c, .slice x11.p x11.n x11.c, .slice x12.p x12.n x12.c, .slice x13.p x13.n x13.c, .slice x14.p x14.n x14.c, .slice x15.p x15.n x15.c] ∧ (
  letH (H4.push (.cells #[.int .i64 (0 : Int), .slice none 0 0, .slice none 0 0, .slice none 0 0, .slice none 0 0, .slice none 0 0, .slice none 0 0, .slice none 0 0] t_api_Host (0, 0))) (fun H5 : Heap =>
  Keeps H4 H5 [((⟨H.size, 0, none⟩ : Addr), 8)] ∧ (
  okRow H5 (⟨H4.size, 0, none⟩ : Addr) 8 ∧ (
  letH (wrs H5 (⟨H4.size, 0, none⟩ : Addr) [.int .i64 x8, .slice x9.p x9.n x9.c, .slice x10.p x10.n x10.c, .slice x11.p x11.n x11.c, .slice x12.p x12.n x12.c, .slice x13.p x13.n x13.c, .slice x14.p x14.n x14.c, .slice x15.p x15.n x15.c]) (fun H6 : Heap =>
  ∃ J_ : Int → Heap → Prop, (
  iteB (!raw) (
  CallsH Try.prog n_law23_port #[.slice t.p t.n t.c, .int .i64 atv] H6 (fun v2 H7 =>
  ∃ p : Int, v2 = .int .i64 p ∧ (
  J_ p H7))) (
  J_ atv H6)) ∧ (∀ p1 : Int, ∀ H8 : Heap, J_ p1 H8 → F_law23_HotplugRemoves_k1 R H1 t H4 p1 H8)))))))) ∧ (
  letH (H3.push (.cells #[.int .i64 (0 : Int), .slice none 0 0, .slice none 0 0, .slice none 0 0, .slice none 0 0, .slice none 0 0, .slice none 0 0, .slice none 0 0] t_api_Host (0, 0))) (fun H20 : Heap =>
  Keeps H3 H20 [((⟨H.size, 0, none⟩ : Addr), 8)] ∧ (
  CallsH Try.prog n_gen_Host #[.agg #[.int .i64 x, .slice x1.p x1.n x1.c, .slice x2.p x2.n x2.c, .slice x3.p x3.n x3.c, .slice x4.p x4.n x4.c, .slice x5.p x5.n x5.c, .slice x6.p x6.n x6.c, .slice x7.p x7.n x7.c]] H20 (fun v11 H21 =>
  ∃ x48 : Int, ∃ x49 : Sl, ∃ x50 : Sl, ∃ x51 : Sl, ∃ x52 : Sl, ∃ x53 : Sl, ∃ x54 : Sl, ∃ x55 : Sl, v11 = .agg #[.int .i64 x48, .slice x49.p x49.n x49.c, .slice x50.p x50.n x50.c, .slice x51.p x51.n x51.c, .slice x52.p x52.n x52.c, .slice x53.p x53.n x53.c, .slice x54.p x54.n x54.c, .slice x55.p x55.n x55.c] ∧ (
  okRow H21 (⟨H3.size, 0, none⟩ : Addr) 8 ∧ (
  letH (wrs H21 (⟨H3.size, 0, none⟩ : Addr) [.int .i64 x48, .slice x49.p x49.n x49.c, .slice x50.p x50.n x50.c, .slice x51.p x51.n x51.c, .slice x52.p x52.n x52.c, .slice x53.p x53.n x53.c, .slice x54.p x54.n x54.c, .slice x55.p x55.n x55.c]) (fun H22 : Heap =>
  ∃ J_1 : Int → Heap → Prop, (
  iteB (!raw) (
  CallsH Try.prog n_law23_port #[.slice t.p t.n t.c, .int .i64 atv] H22 (fun v12 H23 =>
  ∃ p2 : Int, v12 = .int .i64 p2 ∧ (
  J_1 p2 H23))) (
  J_1 atv H22)) ∧ (∀ p3 : Int, ∀ H24 : Heap, J_1 p3 H24 → F_law23_HotplugRemoves_k2 R H1 H3 t p3 H24)))))))))))) ∧ (
  letH (H2.push (.cells #[.int .i64 (0 : Int), .slice none 0 0, .slice none 0 0, .slice none 0 0, .slice none 0 0, .slice none 0 0, .slice none 0 0, .slice none 0 0] t_api_Host (0, 0))) (fun H36 : Heap =>
  Keeps H2 H36 [((⟨H.size, 0, none⟩ : Addr), 8)] ∧ (
  CallsH Try.prog n_gen_Topology #[.slice l.p l.n l.c, .int .i64 (24 : Int)] H36 (fun v21 H37 =>
  ∃ t1 : Sl, v21 = .slice t1.p t1.n t1.c ∧ (
  Keeps H36 H37 [((⟨H.size, 0, none⟩ : Addr), 8)] ∧ (
  CallsH Try.prog n_gen_Host #[.agg #[.int .i64 x, .slice x1.p x1.n x1.c, .slice x2.p x2.n x2.c, .slice x3.p x3.n x3.c, .slice x4.p x4.n x4.c, .slice x5.p x5.n x5.c, .slice x6.p x6.n x6.c, .slice x7.p x7.n x7.c]] H37 (fun v22 H38 =>
  ∃ x88 : Int, ∃ x89 : Sl, ∃ x90 : Sl, ∃ x91 : Sl, ∃ x92 : Sl, ∃ x93 : Sl, ∃ x94 : Sl, ∃ x95 : Sl, v22 = .agg #[.int .i64 x88, .slice x89.p x89.n x89.c, .slice x90.p x90.n x90.c, .slice x91.p x91.n x91.c, .slice x92.p x92.n x92.c, .slice x93.p x93.n x93.c, .slice x94.p x94.n x94.c, .slice x95.p x95.n x95.c] ∧ (
  okRow H38 (⟨H2.size, 0, none⟩ : Addr) 8 ∧ (
  letH (wrs H38 (⟨H2.size, 0, none⟩ : Addr) [.int .i64 x88, .slice x89.p x89.n x89.c, .slice x90.p x90.n x90.c, .slice x91.p x91.n x91.c, .slice x92.p x92.n x92.c, .slice x93.p x93.n x93.c, .slice x94.p x94.n x94.c, .slice x95.p x95.n x95.c]) (fun H39 : Heap =>
  ∃ J_2 : Int → Heap → Prop, (
  iteB (!raw) (
  CallsH Try.prog n_law23_port #[.slice t1.p t1.n t1.c, .int .i64 atv] H39 (fun v23 H40 =>
  ∃ p4 : Int, v23 = .int .i64 p4 ∧ (
  J_2 p4 H40))) (
  J_2 atv H39)) ∧ (∀ p5 : Int, ∀ H41 : Heap, J_2 p5 H41 → F_law23_HotplugRemoves_k3 R H1 H2 t1 p5 H41))))))))))))))

theorem F_law23_HotplugRemoves_eq (R : Value → Heap → Prop) (l : Sl) (h_0 : Int) (h_1 : Sl) (h_2 : Sl) (h_3 : Sl) (h_4 : Sl) (h_5 : Sl) (h_6 : Sl) (h_7 : Sl) (atv : Int) (raw : Bool) (extra_0 : Int) (extra_1 : Int) (extra_2 : Int) (extra_3 : Int) (extra_4 : Int) (H : Heap) : wpF Try.prog Try.f3 [(13, .int .i64 0)] [(4, [13], [9, 11, 12])] [] [20] [.slice l.p l.n l.c, .agg #[.int .i64 h_0, .slice h_1.p h_1.n h_1.c, .slice h_2.p h_2.n h_2.c, .slice h_3.p h_3.n h_3.c, .slice h_4.p h_4.n h_4.c, .slice h_5.p h_5.n h_5.c, .slice h_6.p h_6.n h_6.c, .slice h_7.p h_7.n h_7.c], .int .i64 atv, .bool raw, .agg #[.int .i64 extra_0, .int .i64 extra_1, .int .i64 extra_2, .int .i64 extra_3, .int .u64 extra_4]] H R = F_law23_HotplugRemoves R l h_0 h_1 h_2 h_3 h_4 h_5 h_6 h_7 atv raw extra_0 extra_1 extra_2 extra_3 extra_4 H := by kernel_rfl

theorem F_law23_HotplugRemoves_ok {R : Value → Heap → Prop} (l : Sl) (h_0 : Int) (h_1 : Sl) (h_2 : Sl) (h_3 : Sl) (h_4 : Sl) (h_5 : Sl) (h_6 : Sl) (h_7 : Sl) (atv : Int) (raw : Bool) (extra_0 : Int) (extra_1 : Int) (extra_2 : Int) (extra_3 : Int) (extra_4 : Int) {H : Heap} (h : F_law23_HotplugRemoves R l h_0 h_1 h_2 h_3 h_4 h_5 h_6 h_7 atv raw extra_0 extra_1 extra_2 extra_3 extra_4 H) : CallsH Try.prog n_law23_HotplugRemoves #[.slice l.p l.n l.c, .agg #[.int .i64 h_0, .slice h_1.p h_1.n h_1.c, .slice h_2.p h_2.n h_2.c, .slice h_3.p h_3.n h_3.c, .slice h_4.p h_4.n h_4.c, .slice h_5.p h_5.n h_5.c, .slice h_6.p h_6.n h_6.c, .slice h_7.p h_7.n h_7.c], .int .i64 atv, .bool raw, .agg #[.int .i64 extra_0, .int .i64 extra_1, .int .i64 extra_2, .int .i64 extra_3, .int .u64 extra_4]] H R :=
  wpF_ok Try.func3 (F_law23_HotplugRemoves_eq R l h_0 h_1 h_2 h_3 h_4 h_5 h_6 h_7 atv raw extra_0 extra_1 extra_2 extra_3 extra_4 H) h

/-! ### 4: platformfw/platformfwlaw23.HotplugAdds -/

def F_law23_HotplugAdds_k1 (R : Value → Heap → Prop) (t : Sl) (p1 : Int) (k1 : Sl) (H4 : Heap) : Prop :=
  CallsH Try.prog n_hotplug_Add #[.slice t.p t.n t.c, .int .i64 p1, .slice k1.p k1.n k1.c] H4 (fun v3 H5 =>
  ∃ x : Sl, ∃ x1 : Int, v3 = .tuple #[.slice x.p x.n x.c, .int .i64 x1] ∧ (
  CallsH Try.prog n_ref21_Add #[.slice t.p t.n t.c, .int .i64 p1, .slice k1.p k1.n k1.c] H5 (fun v4 H6 =>
  ∃ x2 : Sl, ∃ x3 : Int, v4 = .tuple #[.slice x2.p x2.n x2.c, .int .i64 x3] ∧ (
  CallsH Try.prog n_law23_awake #[] H6 (fun v5 H7 =>
  ∃ x4 : Bool, v5 = .bool x4 ∧ (
  iteB x4 (
  CallsH Try.prog n_help_EqualFunc_api_Function #[.slice x.p x.n x.c, .slice x2.p x2.n x2.c, .func (.func 14) #[] #[]] H7 (fun v6 H8 =>
  ∃ x5 : Bool, v6 = .bool x5 ∧ (
  iteB x5 (
  R (.bool (x1 == x3)) H8) (
  R (.bool false) H8)))) (
  R (.bool false) H7)))))))

def F_law23_HotplugAdds (R : Value → Heap → Prop) (l : Sl) (c : Sl) (atv : Int) (raw : Bool) (H : Heap) : Prop :=
  CallsH Try.prog n_gen_Topology #[.slice l.p l.n l.c, .int .i64 (20 : Int)] H (fun v H1 =>
  ∃ t : Sl, v = .slice t.p t.n t.c ∧ (
  CallsH Try.prog n_law23_card #[.slice c.p c.n c.c] H1 (fun v1 H2 =>
  ∃ k : Sl, v1 = .slice k.p k.n k.c ∧ (
  ∃ J_ : Int → Sl → Heap → Prop, (
  iteB (!raw) (
  CallsH Try.prog n_law23_port #[.slice t.p t.n t.c, .int .i64 atv] H2 (fun v2 H3 =>
  ∃ p : Int, v2 = .int .i64 p ∧ (
  J_ p k H3))) (
  iteB (decide ((c.n : Int) < (70 : Int))) (
  J_ atv c H2) (
  J_ atv k H2))) ∧ (∀ p1 : Int, ∀ k1 : Sl, ∀ H4 : Heap, J_ p1 k1 H4 → F_law23_HotplugAdds_k1 R t p1 k1 H4)))))

theorem F_law23_HotplugAdds_eq (R : Value → Heap → Prop) (l : Sl) (c : Sl) (atv : Int) (raw : Bool) (H : Heap) : wpF Try.prog Try.f4 [(10, .int .i64 0), (11, .slice none 0 0)] [(6, [10, 11], [9])] [] [20] [.slice l.p l.n l.c, .slice c.p c.n c.c, .int .i64 atv, .bool raw] H R = F_law23_HotplugAdds R l c atv raw H := by kernel_rfl

theorem F_law23_HotplugAdds_ok {R : Value → Heap → Prop} (l : Sl) (c : Sl) (atv : Int) (raw : Bool) {H : Heap} (h : F_law23_HotplugAdds R l c atv raw H) : CallsH Try.prog n_law23_HotplugAdds #[.slice l.p l.n l.c, .slice c.p c.n c.c, .int .i64 atv, .bool raw] H R :=
  wpF_ok Try.func4 (F_law23_HotplugAdds_eq R l c atv raw H) h

/-! ### 5: platformfw/platformfwlaw23.HotplugAddThenRemove -/

def F_law23_HotplugAddThenRemove_r1 (R : Value → Heap → Prop) (t : Sl) (x8 : Sl) (I_ : Int → Heap → Prop) (M_ : Int → Heap → Nat) (i : Int) (H10 : Heap) : Prop :=
  iteB (decide (i < (x8.n : Int))) (
  iteB (decide (i < (t.n : Int))) (
  0 ≤ i ∧ i < (x8.n : Int) ∧ (unSome x8.p (fun a =>
  ∃ x11 : Int, rd H10 (a.add (i.toNat * 1)) = some (.int .i64 x11) ∧ (
  iteB (x11 != i) (
  R (.bool false) H10) (
  iteB (decide (i ≥ (t.n : Int))) (
  0 ≤ i ∧ i < (x8.n : Int) ∧ (unSome x8.p (fun a1 =>
  ∃ x12 : Int, rd H10 (a1.add (i.toNat * 1)) = some (.int .i64 x12) ∧ (
  iteB (x12 != (-1 : Int)) (
  R (.bool false) H10) (
  letV (IntKind.i64.wrap (i + (1 : Int))) (fun i1 : Int =>
  I_ i1 H10 ∧ M_ i1 H10 < M_ i H10)))))) (
  letV (IntKind.i64.wrap (i + (1 : Int))) (fun i2 : Int =>
  I_ i2 H10 ∧ M_ i2 H10 < M_ i H10))))))) (
  iteB (decide (i ≥ (t.n : Int))) (
  0 ≤ i ∧ i < (x8.n : Int) ∧ (unSome x8.p (fun a2 =>
  ∃ x13 : Int, rd H10 (a2.add (i.toNat * 1)) = some (.int .i64 x13) ∧ (
  iteB (x13 != (-1 : Int)) (
  R (.bool false) H10) (
  letV (IntKind.i64.wrap (i + (1 : Int))) (fun i3 : Int =>
  I_ i3 H10 ∧ M_ i3 H10 < M_ i H10)))))) (
  letV (IntKind.i64.wrap (i + (1 : Int))) (fun i4 : Int =>
  I_ i4 H10 ∧ M_ i4 H10 < M_ i H10)))) (
  R (.bool true) H10)

def F_law23_HotplugAddThenRemove_k2 (R : Value → Heap → Prop) (t : Sl) (p : Int) (x1 : Sl) (x4 : Bool) (H6 : Heap) : Prop :=
  iteB x4 (
  CallsH Try.prog n_law23_awake #[] H6 (fun v5 H7 =>
  ∃ x5 : Bool, v5 = .bool x5 ∧ (
  R (.bool x5) H7))) (
  CallsH Try.prog n_hotplug_Remove #[.slice x1.p x1.n x1.c, .slice none 0 0, .int .i64 p] H6 (fun v6 H8 =>
  ∃ x6 : Sl, ∃ x7 : Sl, ∃ x8 : Sl, ∃ x9 : Int, v6 = .tuple #[.slice x6.p x6.n x6.c, .slice x7.p x7.n x7.c, .slice x8.p x8.n x8.c, .int .i64 x9] ∧ (
  iteB (x9 != (0 : Int)) (
  R (.bool false) H8) (
  CallsH Try.prog n_help_EqualFunc_api_Function #[.slice x6.p x6.n x6.c, .slice t.p t.n t.c, .func (.func 14) #[] #[]] H8 (fun v7 H9 =>
  ∃ x10 : Bool, v7 = .bool x10 ∧ (
  iteB (!x10) (
  R (.bool false) H9) (
  iteB ((x8.n : Int) != (x1.n : Int)) (
  R (.bool false) H9) (
  ∃ I_ : Int → Heap → Prop, ∃ M_ : Int → Heap → Nat, I_ (0 : Int) H9 ∧ (∀ i : Int, ∀ H10 : Heap, I_ i H10 → F_law23_HotplugAddThenRemove_r1 R t x8 I_ M_ i H10)))))))))

def F_law23_HotplugAddThenRemove (R : Value → Heap → Prop) (l : Sl) (c : Sl) (atv : Int) (H : Heap) : Prop :=
  CallsH Try.prog n_gen_Topology #[.slice l.p l.n l.c, .int .i64 (20 : Int)] H (fun v H1 =>
  ∃ t : Sl, v = .slice t.p t.n t.c ∧ (
  CallsH Try.prog n_law23_port #[.slice t.p t.n t.c, .int .i64 atv] H1 (fun v1 H2 =>
  ∃ p : Int, v1 = .int .i64 p ∧ (
  CallsH Try.prog n_law23_card #[.slice c.p c.n c.c] H2 (fun v2 H3 =>
  ∃ x : Sl, v2 = .slice x.p x.n x.c ∧ (
  CallsH Try.prog n_hotplug_Add #[.slice t.p t.n t.c, .int .i64 p, .slice x.p x.n x.c] H3 (fun v3 H4 =>
  ∃ x1 : Sl, ∃ x2 : Int, v3 = .tuple #[.slice x1.p x1.n x1.c, .int .i64 x2] ∧ (
  ∃ J_ : Bool → Heap → Prop, (
  CallsH Try.prog n_law23_awake #[] H4 (fun v4 H5 =>
  ∃ x3 : Bool, v4 = .bool x3 ∧ (
  iteB (!x3) (
  J_ true H5) (
  J_ (x2 != (0 : Int)) H5)))) ∧ (∀ x4 : Bool, ∀ H6 : Heap, J_ x4 H6 → F_law23_HotplugAddThenRemove_k2 R t p x1 x4 H6)))))))))

theorem F_law23_HotplugAddThenRemove_eq (R : Value → Heap → Prop) (l : Sl) (c : Sl) (atv : Int) (H : Heap) : wpF Try.prog Try.f5 [(15, .int .i64 0), (34, .bool false)] [(5, [34], [7, 8, 9])] [(10, [15], [7, 13])] [20] [.slice l.p l.n l.c, .slice c.p c.n c.c, .int .i64 atv] H R = F_law23_HotplugAddThenRemove R l c atv H := by kernel_rfl

theorem F_law23_HotplugAddThenRemove_ok {R : Value → Heap → Prop} (l : Sl) (c : Sl) (atv : Int) {H : Heap} (h : F_law23_HotplugAddThenRemove R l c atv H) : CallsH Try.prog n_law23_HotplugAddThenRemove #[.slice l.p l.n l.c, .slice c.p c.n c.c, .int .i64 atv] H R :=
  wpF_ok Try.func5 (F_law23_HotplugAddThenRemove_eq R l c atv H) h

/-! ### 6: platformfw/platformfwgen.Topology -/

def F_gen_Topology_k1 (out : Sl) (bridges : Sl) (J_1 : Sl → Int → Heap → Prop) (H28 : Heap) : Prop :=
  letH (H28.push (.cells #[.int .i64 (out.n : Int)] t_int (0, 0))) (fun H29 : Heap =>
  runH Try.prog (Builtin.append_ #[t_sl_int, t_sl_int] t_sl_int #[.slice bridges.p bridges.n bridges.c, .slice (some (⟨H28.size, 0, none⟩ : Addr)) 1 1]) H29 (fun v13 H30 =>
  ∃ bridges1 : Sl, v13 = .slice bridges1.p bridges1.n bridges1.c ∧ (
  J_1 bridges1 (2 : Int) H30)))

def F_gen_Topology_k2 (out : Sl) (bridges : Sl) (H3 : Heap) (g : Addr) (J_1 : Sl → Int → Heap → Prop) (H25 : Heap) : Prop :=
  ∃ J_3 : Heap → Prop, (
  ∃ x46 : Bool, rd H25 (g.add 6) = some (.bool x46) ∧ (
  iteB x46 (
  ∃ x47 : Int, rd H25 ((⟨H3.size, 0, none⟩ : Addr).add 7) = some (.int .i64 x47) ∧ (
  CallsH Try.prog n_help_Mod #[.int .i64 x47, .int .i64 (4 : Int)] H25 (fun v12 H26 =>
  ∃ x48 : Int, v12 = .int .i64 x48 ∧ (
  okRow H26 (g.add 7) 1 ∧ (
  letH (wrs H26 (g.add 7) [.int .i64 x48]) (fun H27 : Heap =>
  J_3 H27)))))) (
  J_3 H25))) ∧ (∀ H28 : Heap, J_3 H28 → F_gen_Topology_k1 out bridges J_1 H28)

def F_gen_Topology_k3 (I_ : Sl → Sl → Int → Heap → Prop) (M_ : Sl → Sl → Int → Heap → Nat) (out : Sl) (bridges : Sl) (i : Int) (H3 : Heap) (g : Addr) (bridges2 : Sl) (most2 : Int) (H31 : Heap) : Prop :=
  ∃ x49 : Sl, rd H31 ((⟨H3.size, 0, none⟩ : Addr).add 10) = some (.slice x49.p x49.n x49.c) ∧ (
  CallsH Try.prog n_gen_bars #[.slice x49.p x49.n x49.c, .int .i64 most2] H31 (fun v14 H32 =>
  ∃ x50 : Sl, v14 = .slice x50.p x50.n x50.c ∧ (
  okRow H32 (g.add 10) 1 ∧ (
  letH (wrs H32 (g.add 10) [.slice x50.p x50.n x50.c]) (fun H33 : Heap =>
  ∃ x51 : Int, rd H33 g = some (.int .i64 x51) ∧ ∃ x52 : Int, rd H33 (g.add 1) = some (.int .i64 x52) ∧ ∃ x53 : Int, rd H33 (g.add 2) = some (.int .i64 x53) ∧ ∃ x54 : Int, rd H33 (g.add 3) = some (.int .i64 x54) ∧ ∃ x55 : Bool, rd H33 (g.add 4) = some (.bool x55) ∧ ∃ x56 : Bool, rd H33 (g.add 5) = some (.bool x56) ∧ ∃ x57 : Bool, rd H33 (g.add 6) = some (.bool x57) ∧ ∃ x58 : Int, rd H33 (g.add 7) = some (.int .i64 x58) ∧ ∃ x59 : Int, rd H33 (g.add 8) = some (.int .i64 x59) ∧ ∃ x60 : Int, rd H33 (g.add 9) = some (.int .i64 x60) ∧ ∃ x61 : Sl, rd H33 (g.add 10) = some (.slice x61.p x61.n x61.c) ∧ (
  letH (H33.push (.cells #[.int .i64 x51, .int .i64 x52, .int .i64 x53, .int .i64 x54, .bool x55, .bool x56, .bool x57, .int .i64 x58, .int .i64 x59, .int .i64 x60, .slice x61.p x61.n x61.c] t_api_Function (0, 0))) (fun H34 : Heap =>
  runH Try.prog (Builtin.append_ #[t_sl_api_Function, t_sl_api_Function] t_sl_api_Function #[.slice out.p out.n out.c, .slice (some (⟨H33.size, 0, none⟩ : Addr)) 1 1]) H34 (fun v15 H35 =>
  ∃ out1 : Sl, v15 = .slice out1.p out1.n out1.c ∧ (
  letV (IntKind.i64.wrap (i + (1 : Int))) (fun i2 : Int =>
  I_ out1 bridges2 i2 H35 ∧ M_ out1 bridges2 i2 H35 < M_ out bridges i H3))))))))))

def F_gen_Topology_k4 (H : Heap) (I_ : Sl → Sl → Int → Heap → Prop) (M_ : Sl → Sl → Int → Heap → Nat) (out : Sl) (bridges : Sl) (i : Int) (H3 : Heap) (g : Addr) (H18 : Heap) : Prop :=
  ∃ x35 : Int, rd H18 g = some (.int .i64 x35) ∧ (
  ∃ x36 : Int, rd H18 (g.add 1) = some (.int .i64 x36) ∧ (
  runH Try.prog (Instr.lookup t_map_2_int_bool (.map (some H.size)) (.agg #[.int .i64 x35, .int .i64 x36]) false) H18 (fun v9 H19 =>
  ∃ x37 : Bool, v9 = .bool x37 ∧ (
  iteB x37 (
  letV (IntKind.i64.wrap (i + (1 : Int))) (fun i1 : Int =>
  I_ out bridges i1 H19 ∧ M_ out bridges i1 H19 < M_ out bridges i H3)) (
  ∃ x38 : Int, rd H19 g = some (.int .i64 x38) ∧ (
  ∃ x39 : Int, rd H19 (g.add 1) = some (.int .i64 x39) ∧ (
  runH Try.prog (Instr.mapUpdate t_map_2_int_bool (.map (some H.size)) (.agg #[.int .i64 x38, .int .i64 x39]) (.bool true)) H19 (fun _ H20 =>
  ∃ J_1 : Sl → Int → Heap → Prop, (
  ∃ x40 : Bool, rd H20 (g.add 4) = some (.bool x40) ∧ (
  iteB x40 (
  ∃ J_2 : Heap → Prop, (
  ∃ x41 : Int, rd H20 ((⟨H3.size, 0, none⟩ : Addr).add 3) = some (.int .i64 x41) ∧ (
  CallsP Try.prog n_help_Mod #[.int .i64 x41, .int .i64 (3 : Int)] (fun v10 =>
  ∃ x42 : Int, v10 = .int .i64 x42 ∧ (
  ∃ x43 : Bool, rd H20 ((⟨H3.size, 0, none⟩ : Addr).add 6) = some (.bool x43) ∧ (
  iteB x43 (
  okRow H20 (g.add 5) 1 ∧ (
  letH (wrs H20 (g.add 5) [.bool (decide (x42 > (0 : Int)))]) (fun H21 : Heap =>
  okRow H21 (g.add 6) 1 ∧ (
  letH (wrs H21 (g.add 6) [.bool true]) (fun H22 : Heap =>
  J_2 H22))))) (
  ∃ x44 : Int, rd H20 ((⟨H3.size, 0, none⟩ : Addr).add 3) = some (.int .i64 x44) ∧ (
  CallsP Try.prog n_help_Mod #[.int .i64 x44, .int .i64 (4 : Int)] (fun v11 =>
  ∃ x45 : Int, v11 = .int .i64 x45 ∧ (
  okRow H20 (g.add 5) 1 ∧ (
  letH (wrs H20 (g.add 5) [.bool (decide (x42 > (0 : Int)))]) (fun H23 : Heap =>
  okRow H23 (g.add 6) 1 ∧ (
  letH (wrs H23 (g.add 6) [.bool (x45 == (0 : Int))]) (fun H24 : Heap =>
  J_2 H24))))))))))))) ∧ (∀ H25 : Heap, J_2 H25 → F_gen_Topology_k2 out bridges H3 g J_1 H25)) (
  J_1 bridges (6 : Int) H20))) ∧ (∀ bridges2 : Sl, ∀ most2 : Int, ∀ H31 : Heap, J_1 bridges2 most2 H31 → F_gen_Topology_k3 I_ M_ out bridges i H3 g bridges2 most2 H31)))))))))

def F_gen_Topology_r5 (R : Value → Heap → Prop) (H : Heap) (l : Sl) (most : Int) (I_ : Sl → Sl → Int → Heap → Prop) (M_ : Sl → Sl → Int → Heap → Nat) (out : Sl) (bridges : Sl) (i : Int) (H3 : Heap) : Prop :=
  iteB (decide (i < (l.n : Int))) (
  iteB (decide ((out.n : Int) < most)) (
  0 ≤ i ∧ i < (l.n : Int) ∧ (unSome l.p (fun a =>
  ∃ x : Int, rd H3 (a.add (i.toNat * 11)) = some (.int .i64 x) ∧ ∃ x1 : Int, rd H3 ((a.add (i.toNat * 11)).add 1) = some (.int .i64 x1) ∧ ∃ x2 : Int, rd H3 ((a.add (i.toNat * 11)).add 2) = some (.int .i64 x2) ∧ ∃ x3 : Int, rd H3 ((a.add (i.toNat * 11)).add 3) = some (.int .i64 x3) ∧ ∃ x4 : Bool, rd H3 ((a.add (i.toNat * 11)).add 4) = some (.bool x4) ∧ ∃ x5 : Bool, rd H3 ((a.add (i.toNat * 11)).add 5) = some (.bool x5) ∧ ∃ x6 : Bool, rd H3 ((a.add (i.toNat * 11)).add 6) = some (.bool x6) ∧ ∃ x7 : Int, rd H3 ((a.add (i.toNat * 11)).add 7) = some (.int .i64 x7) ∧ ∃ x8 : Int, rd H3 ((a.add (i.toNat * 11)).add 8) = some (.int .i64 x8) ∧ ∃ x9 : Int, rd H3 ((a.add (i.toNat * 11)).add 9) = some (.int .i64 x9) ∧ ∃ x10 : Sl, rd H3 ((a.add (i.toNat * 11)).add 10) = some (.slice x10.p x10.n x10.c) ∧ (
  letH (H3.push (.cells #[.int .i64 (0 : Int), .int .i64 (0 : Int), .int .i64 (0 : Int), .int .i64 (0 : Int), .bool false, .bool false, .bool false, .int .i64 (0 : Int), .int .i64 (0 : Int), .int .i64 (0 : Int), .slice none 0 0] t_api_Function (0, 0))) (fun H4 : Heap =>
  okRow H4 (⟨H3.size, 0, none⟩ : Addr) 11 ∧ (
  letH (wrs H4 (⟨H3.size, 0, none⟩ : Addr) [.int .i64 x, .int .i64 x1, .int .i64 x2, .int .i64 x3, .bool x4, .bool x5, .bool x6, .int .i64 x7, .int .i64 x8, .int .i64 x9, .slice x10.p x10.n x10.c]) (fun H5 : Heap =>
  ∃ J_ : Addr → Heap → Prop, (
  ∃ x11 : Int, rd H5 (⟨H3.size, 0, none⟩ : Addr) = some (.int .i64 x11) ∧ (
  CallsP Try.prog n_help_Mod #[.int .i64 x11, .int .i64 (bridges.n : Int)] (fun v =>
  ∃ x12 : Int, v = .int .i64 x12 ∧ (
  0 ≤ x12 ∧ x12 < (bridges.n : Int) ∧ (unSome bridges.p (fun a1 =>
  ∃ x13 : Int, rd H5 (a1.add (x12.toNat * 1)) = some (.int .i64 x13) ∧ (
  ∃ x14 : Int, rd H5 ((⟨H3.size, 0, none⟩ : Addr).add 1) = some (.int .i64 x14) ∧ (
  CallsP Try.prog n_help_Mod #[.int .i64 x14, .int .i64 (8 : Int)] (fun v1 =>
  ∃ x15 : Int, v1 = .int .i64 x15 ∧ (
  ∃ x16 : Int, rd H5 ((⟨H3.size, 0, none⟩ : Addr).add 2) = some (.int .i64 x16) ∧ (
  CallsP Try.prog n_help_Mod #[.int .i64 x16, .int .i64 (9 : Int)] (fun v2 =>
  ∃ x17 : Int, v2 = .int .i64 x17 ∧ (
  ∃ x18 : Int, rd H5 ((⟨H3.size, 0, none⟩ : Addr).add 3) = some (.int .i64 x18) ∧ (
  CallsP Try.prog n_help_Mod #[.int .i64 x18, .int .i64 (9 : Int)] (fun v3 =>
  ∃ x19 : Int, v3 = .int .i64 x19 ∧ (
  ∃ x20 : Bool, rd H5 ((⟨H3.size, 0, none⟩ : Addr).add 4) = some (.bool x20) ∧ (
  iteB x20 (
  ∃ x21 : Int, rd H5 ((⟨H3.size, 0, none⟩ : Addr).add 8) = some (.int .i64 x21) ∧ (
  CallsP Try.prog n_help_Mod #[.int .i64 x21, .int .i64 (5 : Int)] (fun v4 =>
  ∃ x22 : Int, v4 = .int .i64 x22 ∧ (
  ∃ x23 : Int, rd H5 ((⟨H3.size, 0, none⟩ : Addr).add 9) = some (.int .i64 x23) ∧ (
  CallsP Try.prog n_help_Mod #[.int .i64 x23, .int .i64 (6 : Int)] (fun v5 =>
  ∃ x24 : Int, v5 = .int .i64 x24 ∧ (
  (
  letH (H5.push (.cells #[.int .i64 (0 : Int), .int .i64 (1 : Int), .int .i64 (2 : Int), .int .i64 (4 : Int), .int .i64 (16 : Int), .int .i64 (32 : Int)] t_int (0, 0))) (fun H6 : Heap =>
  Keeps H5 H6 [((⟨H3.size, 0, none⟩ : Addr), 1), ((a1.add (x12.toNat * 1)), 1), (((⟨H3.size, 0, none⟩ : Addr).add 1), 1), (((⟨H3.size, 0, none⟩ : Addr).add 2), 1), (((⟨H3.size, 0, none⟩ : Addr).add 3), 1), (((⟨H3.size, 0, none⟩ : Addr).add 4), 1), (((⟨H3.size, 0, none⟩ : Addr).add 8), 1), (((⟨H3.size, 0, none⟩ : Addr).add 9), 1)] ∧ (
  0 ≤ x24 ∧ x24 < (6 : Int) ∧ (∃ x25 : Int, rd H6 ((⟨H5.size, 0, none⟩ : Addr).add (x24.toNat * 1)) = some (.int .i64 x25) ∧ (
  letH (H6.push (.cells #[.int .i64 (0 : Int), .int .i64 (0 : Int), .int .i64 (0 : Int), .int .i64 (0 : Int), .bool false, .bool false, .bool false, .int .i64 (0 : Int), .int .i64 (0 : Int), .int .i64 (0 : Int), .slice none 0 0] t_api_Function (0, 0))) (fun H7 : Heap =>
  Keeps H6 H7 [((⟨H3.size, 0, none⟩ : Addr), 1), ((a1.add (x12.toNat * 1)), 1), (((⟨H3.size, 0, none⟩ : Addr).add 1), 1), (((⟨H3.size, 0, none⟩ : Addr).add 2), 1), (((⟨H3.size, 0, none⟩ : Addr).add 3), 1), (((⟨H3.size, 0, none⟩ : Addr).add 4), 1), (((⟨H3.size, 0, none⟩ : Addr).add 8), 1), (((⟨H3.size, 0, none⟩ : Addr).add 9), 1), (((⟨H5.size, 0, none⟩ : Addr).add (x24.toNat * 1)), 1)] ∧ (
  okRow H7 (⟨H6.size, 0, none⟩ : Addr) 11 ∧ (
  letH (wrs H7 (⟨H6.size, 0, none⟩ : Addr) [.int .i64 x13, .int .i64 x15, .int .i64 (IntKind.i64.wrap ((1 : Int) + x17)), .int .i64 x19, .bool true, .bool false, .bool false, .int .i64 (0 : Int), .int .i64 x22, .int .i64 x25, .slice none 0 0]) (fun H8 : Heap =>
  J_ (⟨H6.size, 0, none⟩ : Addr) H8))))))))) ∧ (
  letH (H5.push (.cells #[.int .i64 (0 : Int), .int .i64 (0 : Int), .int .i64 (0 : Int), .int .i64 (0 : Int), .bool false, .bool false, .bool false, .int .i64 (0 : Int), .int .i64 (0 : Int), .int .i64 (0 : Int), .slice none 0 0] t_api_Function (0, 0))) (fun H9 : Heap =>
  Keeps H5 H9 [((⟨H3.size, 0, none⟩ : Addr), 1), ((a1.add (x12.toNat * 1)), 1), (((⟨H3.size, 0, none⟩ : Addr).add 1), 1), (((⟨H3.size, 0, none⟩ : Addr).add 2), 1), (((⟨H3.size, 0, none⟩ : Addr).add 3), 1), (((⟨H3.size, 0, none⟩ : Addr).add 4), 1), (((⟨H3.size, 0, none⟩ : Addr).add 8), 1), (((⟨H3.size, 0, none⟩ : Addr).add 9), 1)] ∧ (
  letH (H9.push (.cells #[.int .i64 (0 : Int), .int .i64 (1 : Int), .int .i64 (2 : Int), .int .i64 (4 : Int), .int .i64 (16 : Int), .int .i64 (32 : Int)] t_int (0, 0))) (fun H10 : Heap =>
  Keeps H9 H10 [((⟨H3.size, 0, none⟩ : Addr), 1), ((a1.add (x12.toNat * 1)), 1), (((⟨H3.size, 0, none⟩ : Addr).add 1), 1), (((⟨H3.size, 0, none⟩ : Addr).add 2), 1), (((⟨H3.size, 0, none⟩ : Addr).add 3), 1), (((⟨H3.size, 0, none⟩ : Addr).add 4), 1), (((⟨H3.size, 0, none⟩ : Addr).add 8), 1), (((⟨H3.size, 0, none⟩ : Addr).add 9), 1)] ∧ (
  0 ≤ x24 ∧ x24 < (6 : Int) ∧ (∃ x26 : Int, rd H10 ((⟨H9.size, 0, none⟩ : Addr).add (x24.toNat * 1)) = some (.int .i64 x26) ∧ (
  okRow H10 (⟨H5.size, 0, none⟩ : Addr) 11 ∧ (
  letH (wrs H10 (⟨H5.size, 0, none⟩ : Addr) [.int .i64 x13, .int .i64 x15, .int .i64 (IntKind.i64.wrap ((1 : Int) + x17)), .int .i64 x19, .bool true, .bool false, .bool false, .int .i64 (0 : Int), .int .i64 x22, .int .i64 x26, .slice none 0 0]) (fun H11 : Heap =>
  J_ (⟨H5.size, 0, none⟩ : Addr) H11)))))))))))))))) (
  ∃ x27 : Int, rd H5 ((⟨H3.size, 0, none⟩ : Addr).add 2) = some (.int .i64 x27) ∧ (
  CallsP Try.prog n_help_Mod #[.int .i64 x27, .int .i64 (3 : Int)] (fun v6 =>
  ∃ x28 : Int, v6 = .int .i64 x28 ∧ (
  ∃ x29 : Int, rd H5 ((⟨H3.size, 0, none⟩ : Addr).add 8) = some (.int .i64 x29) ∧ (
  CallsP Try.prog n_help_Mod #[.int .i64 x29, .int .i64 (5 : Int)] (fun v7 =>
  ∃ x30 : Int, v7 = .int .i64 x30 ∧ (
  ∃ x31 : Int, rd H5 ((⟨H3.size, 0, none⟩ : Addr).add 9) = some (.int .i64 x31) ∧ (
  CallsP Try.prog n_help_Mod #[.int .i64 x31, .int .i64 (6 : Int)] (fun v8 =>
  ∃ x32 : Int, v8 = .int .i64 x32 ∧ (
  (
  letH (H5.push (.cells #[.int .i64 (0 : Int), .int .i64 (1 : Int), .int .i64 (2 : Int), .int .i64 (4 : Int), .int .i64 (16 : Int), .int .i64 (32 : Int)] t_int (0, 0))) (fun H12 : Heap =>
  Keeps H5 H12 [((⟨H3.size, 0, none⟩ : Addr), 1), ((a1.add (x12.toNat * 1)), 1), (((⟨H3.size, 0, none⟩ : Addr).add 1), 1), (((⟨H3.size, 0, none⟩ : Addr).add 2), 1), (((⟨H3.size, 0, none⟩ : Addr).add 3), 1), (((⟨H3.size, 0, none⟩ : Addr).add 4), 1), (((⟨H3.size, 0, none⟩ : Addr).add 2), 1), (((⟨H3.size, 0, none⟩ : Addr).add 8), 1), (((⟨H3.size, 0, none⟩ : Addr).add 9), 1)] ∧ (
  0 ≤ x32 ∧ x32 < (6 : Int) ∧ (∃ x33 : Int, rd H12 ((⟨H5.size, 0, none⟩ : Addr).add (x32.toNat * 1)) = some (.int .i64 x33) ∧ (
  letH (H12.push (.cells #[.int .i64 (0 : Int), .int .i64 (0 : Int), .int .i64 (0 : Int), .int .i64 (0 : Int), .bool false, .bool false, .bool false, .int .i64 (0 : Int), .int .i64 (0 : Int), .int .i64 (0 : Int), .slice none 0 0] t_api_Function (0, 0))) (fun H13 : Heap =>
  Keeps H12 H13 [((⟨H3.size, 0, none⟩ : Addr), 1), ((a1.add (x12.toNat * 1)), 1), (((⟨H3.size, 0, none⟩ : Addr).add 1), 1), (((⟨H3.size, 0, none⟩ : Addr).add 2), 1), (((⟨H3.size, 0, none⟩ : Addr).add 3), 1), (((⟨H3.size, 0, none⟩ : Addr).add 4), 1), (((⟨H3.size, 0, none⟩ : Addr).add 2), 1), (((⟨H3.size, 0, none⟩ : Addr).add 8), 1), (((⟨H3.size, 0, none⟩ : Addr).add 9), 1), (((⟨H5.size, 0, none⟩ : Addr).add (x32.toNat * 1)), 1)] ∧ (
  okRow H13 (⟨H12.size, 0, none⟩ : Addr) 11 ∧ (
  letH (wrs H13 (⟨H12.size, 0, none⟩ : Addr) [.int .i64 x13, .int .i64 x15, .int .i64 (IntKind.i64.wrap ((1 : Int) + x17)), .int .i64 x19, .bool (x28 == (0 : Int)), .bool false, .bool false, .int .i64 (0 : Int), .int .i64 x30, .int .i64 x33, .slice none 0 0]) (fun H14 : Heap =>
  J_ (⟨H12.size, 0, none⟩ : Addr) H14))))))))) ∧ (
  letH (H5.push (.cells #[.int .i64 (0 : Int), .int .i64 (0 : Int), .int .i64 (0 : Int), .int .i64 (0 : Int), .bool false, .bool false, .bool false, .int .i64 (0 : Int), .int .i64 (0 : Int), .int .i64 (0 : Int), .slice none 0 0] t_api_Function (0, 0))) (fun H15 : Heap =>
  Keeps H5 H15 [((⟨H3.size, 0, none⟩ : Addr), 1), ((a1.add (x12.toNat * 1)), 1), (((⟨H3.size, 0, none⟩ : Addr).add 1), 1), (((⟨H3.size, 0, none⟩ : Addr).add 2), 1), (((⟨H3.size, 0, none⟩ : Addr).add 3), 1), (((⟨H3.size, 0, none⟩ : Addr).add 4), 1), (((⟨H3.size, 0, none⟩ : Addr).add 2), 1), (((⟨H3.size, 0, none⟩ : Addr).add 8), 1), (((⟨H3.size, 0, none⟩ : Addr).add 9), 1)] ∧ (
  letH (H15.push (.cells #[.int .i64 (0 : Int), .int .i64 (1 : Int), .int .i64 (2 : Int), .int .i64 (4 : Int), .int .i64 (16 : Int), .int .i64 (32 : Int)] t_int (0, 0))) (fun H16 : Heap =>
  Keeps H15 H16 [((⟨H3.size, 0, none⟩ : Addr), 1), ((a1.add (x12.toNat * 1)), 1), (((⟨H3.size, 0, none⟩ : Addr).add 1), 1), (((⟨H3.size, 0, none⟩ : Addr).add 2), 1), (((⟨H3.size, 0, none⟩ : Addr).add 3), 1), (((⟨H3.size, 0, none⟩ : Addr).add 4), 1), (((⟨H3.size, 0, none⟩ : Addr).add 2), 1), (((⟨H3.size, 0, none⟩ : Addr).add 8), 1), (((⟨H3.size, 0, none⟩ : Addr).add 9), 1)] ∧ (
  0 ≤ x32 ∧ x32 < (6 : Int) ∧ (∃ x34 : Int, rd H16 ((⟨H15.size, 0, none⟩ : Addr).add (x32.toNat * 1)) = some (.int .i64 x34) ∧ (
  okRow H16 (⟨H5.size, 0, none⟩ : Addr) 11 ∧ (
  letH (wrs H16 (⟨H5.size, 0, none⟩ : Addr) [.int .i64 x13, .int .i64 x15, .int .i64 (IntKind.i64.wrap ((1 : Int) + x17)), .int .i64 x19, .bool (x28 == (0 : Int)), .bool false, .bool false, .int .i64 (0 : Int), .int .i64 x30, .int .i64 x34, .slice none 0 0]) (fun H17 : Heap =>
  J_ (⟨H5.size, 0, none⟩ : Addr) H17)))))))))))))))))))))))))))))))))))) ∧ (∀ g : Addr, ∀ H18 : Heap, J_ g H18 → F_gen_Topology_k4 H I_ M_ out bridges i H3 g H18)))))))) (
  R (.slice out.p out.n out.c) H3)) (
  R (.slice out.p out.n out.c) H3)

def F_gen_Topology (R : Value → Heap → Prop) (l : Sl) (most : Int) (H : Heap) : Prop :=
  letH (H.push (.map #[] 0)) (fun H1 : Heap =>
  letH (H1.push (.cells #[.int .i64 (-1 : Int)] t_int (0, 0))) (fun H2 : Heap =>
  ∃ I_ : Sl → Sl → Int → Heap → Prop, ∃ M_ : Sl → Sl → Int → Heap → Nat, I_ (Sl.mk none 0 0) (Sl.mk (some (⟨H1.size, 0, none⟩ : Addr)) 1 1) (0 : Int) H2 ∧ (∀ out : Sl, ∀ bridges : Sl, ∀ i : Int, ∀ H3 : Heap, I_ out bridges i H3 → F_gen_Topology_r5 R H l most I_ M_ out bridges i H3)))

theorem F_gen_Topology_eq (R : Value → Heap → Prop) (l : Sl) (most : Int) (H : Heap) : wpF Try.prog Try.f6 [(5, .slice none 0 0), (7, .slice none 0 0), (8, .int .i64 0), (10, .pointer (some ⟨0, 0, none⟩)), (11, .int .i64 0)] [(9, [10], [0, 1, 5, 6, 7, 8, 9]), (18, [7, 11], [0, 1, 5, 6, 8, 9, 10]), (15, [], [0, 1, 5, 6, 7, 8, 9, 10, 11]), (17, [], [0, 1, 5, 6, 7, 8, 9, 10, 11])] [(5, [5, 7, 8], [0, 1, 6])] [20] [.slice l.p l.n l.c, .int .i64 most] H R = F_gen_Topology R l most H := by kernel_rfl

theorem F_gen_Topology_ok {R : Value → Heap → Prop} (l : Sl) (most : Int) {H : Heap} (h : F_gen_Topology R l most H) : CallsH Try.prog n_gen_Topology #[.slice l.p l.n l.c, .int .i64 most] H R :=
  wpF_ok Try.func6 (F_gen_Topology_eq R l most H) h

/-! ### 7: platformfw/platformfwgen.Host -/

def F_gen_Host_k1 (H3 : Heap) (I_ : Int → Heap → Prop) (M_ : Int → Heap → Nat) (i : Int) (H27 : Heap) (H31 : Heap) : Prop :=
  ∃ x22 : Sl, rd H31 ((⟨H3.size, 0, none⟩ : Addr).add 6) = some (.slice x22.p x22.n x22.c) ∧ (
  ∃ x23 : Int, rd H31 (⟨H27.size, 0, none⟩ : Addr) = some (.int .u32 x23) ∧ (
  letH (H31.push (.cells #[.int .u32 x23] t_api_IntLink (0, 0))) (fun H32 : Heap =>
  runH Try.prog (Builtin.append_ #[t_sl_api_IntLink, t_sl_api_IntLink] t_sl_api_IntLink #[.slice x22.p x22.n x22.c, .slice (some (⟨H31.size, 0, none⟩ : Addr)) 1 1]) H32 (fun v8 H33 =>
  ∃ x24 : Sl, v8 = .slice x24.p x24.n x24.c ∧ (
  okRow H33 ((⟨H3.size, 0, none⟩ : Addr).add 6) 1 ∧ (
  letH (wrs H33 ((⟨H3.size, 0, none⟩ : Addr).add 6) [.slice x24.p x24.n x24.c]) (fun H34 : Heap =>
  letV (IntKind.i64.wrap (i + (1 : Int))) (fun i1 : Int =>
  I_ i1 H34 ∧ M_ i1 H34 < M_ i H27))))))))

def F_gen_Host_r2 (H : Heap) (H3 : Heap) (J_2 : Heap → Prop) (I_ : Int → Heap → Prop) (M_ : Int → Heap → Nat) (i : Int) (H27 : Heap) : Prop :=
  ∃ x18 : Sl, rd H27 ((⟨H.size, 0, none⟩ : Addr).add 6) = some (.slice x18.p x18.n x18.c) ∧ (
  iteB (decide (i < (x18.n : Int))) (
  iteB (decide (i < (5 : Int))) (
  ∃ x19 : Sl, rd H27 ((⟨H.size, 0, none⟩ : Addr).add 6) = some (.slice x19.p x19.n x19.c) ∧ (
  0 ≤ i ∧ i < (x19.n : Int) ∧ (unSome x19.p (fun a =>
  ∃ x20 : Int, rd H27 (a.add (i.toNat * 1)) = some (.int .u32 x20) ∧ (
  letH (H27.push (.cells #[.int .u32 (0 : Int)] t_api_IntLink (0, 0))) (fun H28 : Heap =>
  okRow H28 (⟨H27.size, 0, none⟩ : Addr) 1 ∧ (
  letH (wrs H28 (⟨H27.size, 0, none⟩ : Addr) [.int .u32 x20]) (fun H29 : Heap =>
  ∃ J_3 : Heap → Prop, (
  ∃ x21 : Int, rd H29 (⟨H27.size, 0, none⟩ : Addr) = some (.int .u32 x21) ∧ (
  iteB (x21 == (0 : Int)) (
  iteB ((i.tmod (2 : Int)) == (0 : Int)) (
  okRow H29 (⟨H27.size, 0, none⟩ : Addr) 1 ∧ (
  letH (wrs H29 (⟨H27.size, 0, none⟩ : Addr) [.int .u32 (7680 : Int)]) (fun H30 : Heap =>
  J_3 H30))) (
  J_3 H29)) (
  J_3 H29))) ∧ (∀ H31 : Heap, J_3 H31 → F_gen_Host_k1 H3 I_ M_ i H27 H31))))))))) (
  J_2 H27)) (
  J_2 H27))

def F_gen_Host_r3 (H : Heap) (H3 : Heap) (J_4 : Heap → Prop) (I_1 : Int → Heap → Prop) (M_1 : Int → Heap → Nat) (i2 : Int) (H36 : Heap) : Prop :=
  ∃ x25 : Sl, rd H36 ((⟨H.size, 0, none⟩ : Addr).add 7) = some (.slice x25.p x25.n x25.c) ∧ (
  iteB (decide (i2 < (x25.n : Int))) (
  iteB (decide (i2 < (40 : Int))) (
  ∃ x26 : Sl, rd H36 ((⟨H3.size, 0, none⟩ : Addr).add 6) = some (.slice x26.p x26.n x26.c) ∧ (
  iteB (decide ((x26.n : Int) > (0 : Int))) (
  ∃ x27 : Sl, rd H36 ((⟨H3.size, 0, none⟩ : Addr).add 7) = some (.slice x27.p x27.n x27.c) ∧ (
  ∃ x28 : Sl, rd H36 ((⟨H.size, 0, none⟩ : Addr).add 7) = some (.slice x28.p x28.n x28.c) ∧ (
  0 ≤ i2 ∧ i2 < (x28.n : Int) ∧ (unSome x28.p (fun a1 =>
  ∃ x29 : Int, rd H36 (a1.add (i2.toNat * 3)) = some (.int .i64 x29) ∧ (
  CallsP Try.prog n_help_Mod #[.int .i64 x29, .int .i64 (8 : Int)] (fun v9 =>
  ∃ x30 : Int, v9 = .int .i64 x30 ∧ (
  ∃ x31 : Sl, rd H36 ((⟨H.size, 0, none⟩ : Addr).add 7) = some (.slice x31.p x31.n x31.c) ∧ (
  0 ≤ i2 ∧ i2 < (x31.n : Int) ∧ (unSome x31.p (fun a2 =>
  ∃ x32 : Int, rd H36 ((a2.add (i2.toNat * 3)).add 1) = some (.int .i64 x32) ∧ (
  CallsP Try.prog n_help_Mod #[.int .i64 x32, .int .i64 (4 : Int)] (fun v10 =>
  ∃ x33 : Int, v10 = .int .i64 x33 ∧ (
  ∃ x34 : Sl, rd H36 ((⟨H.size, 0, none⟩ : Addr).add 7) = some (.slice x34.p x34.n x34.c) ∧ (
  0 ≤ i2 ∧ i2 < (x34.n : Int) ∧ (unSome x34.p (fun a3 =>
  ∃ x35 : Int, rd H36 ((a3.add (i2.toNat * 3)).add 2) = some (.int .i64 x35) ∧ (
  ∃ x36 : Sl, rd H36 ((⟨H3.size, 0, none⟩ : Addr).add 6) = some (.slice x36.p x36.n x36.c) ∧ (
  CallsP Try.prog n_help_Mod #[.int .i64 x35, .int .i64 (x36.n : Int)] (fun v11 =>
  ∃ x37 : Int, v11 = .int .i64 x37 ∧ (
  letH (H36.push (.cells #[.int .i64 x30, .int .i64 (IntKind.i64.wrap ((1 : Int) + x33)), .int .i64 x37] t_api_Route (0, 0))) (fun H37 : Heap =>
  Keeps H36 H37 [(((⟨H3.size, 0, none⟩ : Addr).add 7), 1)] ∧ (
  runH Try.prog (Builtin.append_ #[t_sl_api_Route, t_sl_api_Route] t_sl_api_Route #[.slice x27.p x27.n x27.c, .slice (some (⟨H36.size, 0, none⟩ : Addr)) 1 1]) H37 (fun v12 H38 =>
  ∃ x38 : Sl, v12 = .slice x38.p x38.n x38.c ∧ (
  okRow H38 ((⟨H3.size, 0, none⟩ : Addr).add 7) 1 ∧ (
  letH (wrs H38 ((⟨H3.size, 0, none⟩ : Addr).add 7) [.slice x38.p x38.n x38.c]) (fun H39 : Heap =>
  letV (IntKind.i64.wrap (i2 + (1 : Int))) (fun i3 : Int =>
  I_1 i3 H39 ∧ M_1 i3 H39 < M_1 i2 H36)))))))))))))))))))))))))))) (
  J_4 H36))) (
  J_4 H36)) (
  J_4 H36))

def F_gen_Host_r4 (R : Value → Heap → Prop) (H1 : Heap) (H3 : Heap) (I_2 : Int → Heap → Prop) (M_2 : Int → Heap → Nat) (i4 : Int) (H41 : Heap) : Prop :=
  iteB (decide (i4 < (32 : Int))) (
  ∃ x39 : Sl, rd H41 ((⟨H3.size, 0, none⟩ : Addr).add 6) = some (.slice x39.p x39.n x39.c) ∧ (
  iteB (decide ((x39.n : Int) > (0 : Int))) (
  ∃ x40 : Sl, rd H41 ((⟨H3.size, 0, none⟩ : Addr).add 7) = some (.slice x40.p x40.n x40.c) ∧ (
  ∃ x41 : Sl, rd H41 ((⟨H3.size, 0, none⟩ : Addr).add 6) = some (.slice x41.p x41.n x41.c) ∧ (
  (x41.n : Int) ≠ 0 ∧ (
  letH (H41.push (.cells #[.int .i64 (i4.tmod (8 : Int)), .int .i64 (IntKind.i64.wrap ((1 : Int) + (IntKind.i64.wrap (i4.tdiv (8 : Int))))), .int .i64 (i4.tmod (x41.n : Int))] t_api_Route (0, 0))) (fun H42 : Heap =>
  Keeps H41 H42 [(((⟨H3.size, 0, none⟩ : Addr).add 7), 1)] ∧ (
  runH Try.prog (Builtin.append_ #[t_sl_api_Route, t_sl_api_Route] t_sl_api_Route #[.slice x40.p x40.n x40.c, .slice (some (⟨H41.size, 0, none⟩ : Addr)) 1 1]) H42 (fun v13 H43 =>
  ∃ x42 : Sl, v13 = .slice x42.p x42.n x42.c ∧ (
  okRow H43 ((⟨H3.size, 0, none⟩ : Addr).add 7) 1 ∧ (
  letH (wrs H43 ((⟨H3.size, 0, none⟩ : Addr).add 7) [.slice x42.p x42.n x42.c]) (fun H44 : Heap =>
  letV (IntKind.i64.wrap (i4 + (1 : Int))) (fun i5 : Int =>
  I_2 i5 H44 ∧ M_2 i5 H44 < M_2 i4 H41))))))))))) (
  ∃ x43 : Int, rd H41 (⟨H3.size, 0, none⟩ : Addr) = some (.int .i64 x43) ∧ ∃ x44 : Sl, rd H41 ((⟨H3.size, 0, none⟩ : Addr).add 1) = some (.slice x44.p x44.n x44.c) ∧ ∃ x45 : Sl, rd H41 ((⟨H3.size, 0, none⟩ : Addr).add 2) = some (.slice x45.p x45.n x45.c) ∧ ∃ x46 : Sl, rd H41 ((⟨H3.size, 0, none⟩ : Addr).add 3) = some (.slice x46.p x46.n x46.c) ∧ ∃ x47 : Sl, rd H41 ((⟨H3.size, 0, none⟩ : Addr).add 4) = some (.slice x47.p x47.n x47.c) ∧ ∃ x48 : Sl, rd H41 ((⟨H3.size, 0, none⟩ : Addr).add 5) = some (.slice x48.p x48.n x48.c) ∧ ∃ x49 : Sl, rd H41 ((⟨H3.size, 0, none⟩ : Addr).add 6) = some (.slice x49.p x49.n x49.c) ∧ ∃ x50 : Sl, rd H41 ((⟨H3.size, 0, none⟩ : Addr).add 7) = some (.slice x50.p x50.n x50.c) ∧ (
  okRow H41 (⟨H1.size, 0, none⟩ : Addr) 8 ∧ (
  letH (wrs H41 (⟨H1.size, 0, none⟩ : Addr) [.int .i64 x43, .slice x44.p x44.n x44.c, .slice x45.p x45.n x45.c, .slice x46.p x46.n x46.c, .slice x47.p x47.n x47.c, .slice x48.p x48.n x48.c, .slice x49.p x49.n x49.c, .slice x50.p x50.n x50.c]) (fun H45 : Heap =>
  ∃ r : Int, rd H45 (⟨H1.size, 0, none⟩ : Addr) = some (.int .i64 r) ∧ ∃ r1 : Sl, rd H45 ((⟨H1.size, 0, none⟩ : Addr).add 1) = some (.slice r1.p r1.n r1.c) ∧ ∃ r2 : Sl, rd H45 ((⟨H1.size, 0, none⟩ : Addr).add 2) = some (.slice r2.p r2.n r2.c) ∧ ∃ r3 : Sl, rd H45 ((⟨H1.size, 0, none⟩ : Addr).add 3) = some (.slice r3.p r3.n r3.c) ∧ ∃ r4 : Sl, rd H45 ((⟨H1.size, 0, none⟩ : Addr).add 4) = some (.slice r4.p r4.n r4.c) ∧ ∃ r5 : Sl, rd H45 ((⟨H1.size, 0, none⟩ : Addr).add 5) = some (.slice r5.p r5.n r5.c) ∧ ∃ r6 : Sl, rd H45 ((⟨H1.size, 0, none⟩ : Addr).add 6) = some (.slice r6.p r6.n r6.c) ∧ ∃ r7 : Sl, rd H45 ((⟨H1.size, 0, none⟩ : Addr).add 7) = some (.slice r7.p r7.n r7.c) ∧ (
  R (.agg #[.int .i64 r, .slice r1.p r1.n r1.c, .slice r2.p r2.n r2.c, .slice r3.p r3.n r3.c, .slice r4.p r4.n r4.c, .slice r5.p r5.n r5.c, .slice r6.p r6.n r6.c, .slice r7.p r7.n r7.c]) H45))))))) (
  ∃ x51 : Int, rd H41 (⟨H3.size, 0, none⟩ : Addr) = some (.int .i64 x51) ∧ ∃ x52 : Sl, rd H41 ((⟨H3.size, 0, none⟩ : Addr).add 1) = some (.slice x52.p x52.n x52.c) ∧ ∃ x53 : Sl, rd H41 ((⟨H3.size, 0, none⟩ : Addr).add 2) = some (.slice x53.p x53.n x53.c) ∧ ∃ x54 : Sl, rd H41 ((⟨H3.size, 0, none⟩ : Addr).add 3) = some (.slice x54.p x54.n x54.c) ∧ ∃ x55 : Sl, rd H41 ((⟨H3.size, 0, none⟩ : Addr).add 4) = some (.slice x55.p x55.n x55.c) ∧ ∃ x56 : Sl, rd H41 ((⟨H3.size, 0, none⟩ : Addr).add 5) = some (.slice x56.p x56.n x56.c) ∧ ∃ x57 : Sl, rd H41 ((⟨H3.size, 0, none⟩ : Addr).add 6) = some (.slice x57.p x57.n x57.c) ∧ ∃ x58 : Sl, rd H41 ((⟨H3.size, 0, none⟩ : Addr).add 7) = some (.slice x58.p x58.n x58.c) ∧ (
  okRow H41 (⟨H1.size, 0, none⟩ : Addr) 8 ∧ (
  letH (wrs H41 (⟨H1.size, 0, none⟩ : Addr) [.int .i64 x51, .slice x52.p x52.n x52.c, .slice x53.p x53.n x53.c, .slice x54.p x54.n x54.c, .slice x55.p x55.n x55.c, .slice x56.p x56.n x56.c, .slice x57.p x57.n x57.c, .slice x58.p x58.n x58.c]) (fun H46 : Heap =>
  ∃ r8 : Int, rd H46 (⟨H1.size, 0, none⟩ : Addr) = some (.int .i64 r8) ∧ ∃ r9 : Sl, rd H46 ((⟨H1.size, 0, none⟩ : Addr).add 1) = some (.slice r9.p r9.n r9.c) ∧ ∃ r10 : Sl, rd H46 ((⟨H1.size, 0, none⟩ : Addr).add 2) = some (.slice r10.p r10.n r10.c) ∧ ∃ r11 : Sl, rd H46 ((⟨H1.size, 0, none⟩ : Addr).add 3) = some (.slice r11.p r11.n r11.c) ∧ ∃ r12 : Sl, rd H46 ((⟨H1.size, 0, none⟩ : Addr).add 4) = some (.slice r12.p r12.n r12.c) ∧ ∃ r13 : Sl, rd H46 ((⟨H1.size, 0, none⟩ : Addr).add 5) = some (.slice r13.p r13.n r13.c) ∧ ∃ r14 : Sl, rd H46 ((⟨H1.size, 0, none⟩ : Addr).add 6) = some (.slice r14.p r14.n r14.c) ∧ ∃ r15 : Sl, rd H46 ((⟨H1.size, 0, none⟩ : Addr).add 7) = some (.slice r15.p r15.n r15.c) ∧ (
  R (.agg #[.int .i64 r8, .slice r9.p r9.n r9.c, .slice r10.p r10.n r10.c, .slice r11.p r11.n r11.c, .slice r12.p r12.n r12.c, .slice r13.p r13.n r13.c, .slice r14.p r14.n r14.c, .slice r15.p r15.n r15.c]) H46)))))

def F_gen_Host_k5 (R : Value → Heap → Prop) (H1 : Heap) (H3 : Heap) (H40 : Heap) : Prop :=
  ∃ I_2 : Int → Heap → Prop, ∃ M_2 : Int → Heap → Nat, I_2 (0 : Int) H40 ∧ (∀ i4 : Int, ∀ H41 : Heap, I_2 i4 H41 → F_gen_Host_r4 R H1 H3 I_2 M_2 i4 H41)

def F_gen_Host_k6 (R : Value → Heap → Prop) (H : Heap) (H1 : Heap) (H3 : Heap) (H35 : Heap) : Prop :=
  ∃ J_4 : Heap → Prop, (
  ∃ I_1 : Int → Heap → Prop, ∃ M_1 : Int → Heap → Nat, I_1 (0 : Int) H35 ∧ (∀ i2 : Int, ∀ H36 : Heap, I_1 i2 H36 → F_gen_Host_r3 H H3 J_4 I_1 M_1 i2 H36)) ∧ (∀ H40 : Heap, J_4 H40 → F_gen_Host_k5 R H1 H3 H40)

def F_gen_Host_k7 (R : Value → Heap → Prop) (H : Heap) (H1 : Heap) (H3 : Heap) (H26 : Heap) : Prop :=
  ∃ J_2 : Heap → Prop, (
  ∃ I_ : Int → Heap → Prop, ∃ M_ : Int → Heap → Nat, I_ (0 : Int) H26 ∧ (∀ i : Int, ∀ H27 : Heap, I_ i H27 → F_gen_Host_r2 H H3 J_2 I_ M_ i H27)) ∧ (∀ H35 : Heap, J_2 H35 → F_gen_Host_k6 R H H1 H3 H35)

def F_gen_Host_k8 (R : Value → Heap → Prop) (H : Heap) (H1 : Heap) (H3 : Heap) (H8 : Heap) : Prop :=
  ∃ x4 : Sl, rd H8 ((⟨H.size, 0, none⟩ : Addr).add 1) = some (.slice x4.p x4.n x4.c) ∧ (
  CallsH Try.prog n_gen_ranges #[.slice x4.p x4.n x4.c, .int .u64 (4096 : Int), .int .u64 (65536 : Int), .int .u64 (1024 : Int), .int .i64 (3 : Int)] H8 (fun v2 H9 =>
  ∃ x5 : Sl, v2 = .slice x5.p x5.n x5.c ∧ (
  okRow H9 ((⟨H3.size, 0, none⟩ : Addr).add 1) 1 ∧ (
  letH (wrs H9 ((⟨H3.size, 0, none⟩ : Addr).add 1) [.slice x5.p x5.n x5.c]) (fun H10 : Heap =>
  ∃ x6 : Sl, rd H10 ((⟨H.size, 0, none⟩ : Addr).add 2) = some (.slice x6.p x6.n x6.c) ∧ (
  CallsH Try.prog n_gen_ranges #[.slice x6.p x6.n x6.c, .int .u64 (16777216 : Int), .int .u64 (4294967296 : Int), .int .u64 (262144 : Int), .int .i64 (3 : Int)] H10 (fun v3 H11 =>
  ∃ x7 : Sl, v3 = .slice x7.p x7.n x7.c ∧ (
  okRow H11 ((⟨H3.size, 0, none⟩ : Addr).add 2) 1 ∧ (
  letH (wrs H11 ((⟨H3.size, 0, none⟩ : Addr).add 2) [.slice x7.p x7.n x7.c]) (fun H12 : Heap =>
  ∃ x8 : Sl, rd H12 ((⟨H.size, 0, none⟩ : Addr).add 3) = some (.slice x8.p x8.n x8.c) ∧ (
  CallsH Try.prog n_gen_ranges #[.slice x8.p x8.n x8.c, .int .u64 (4294967296 : Int), .int .u64 (1099511627776 : Int), .int .u64 (268435456 : Int), .int .i64 (2 : Int)] H12 (fun v4 H13 =>
  ∃ x9 : Sl, v4 = .slice x9.p x9.n x9.c ∧ (
  okRow H13 ((⟨H3.size, 0, none⟩ : Addr).add 3) 1 ∧ (
  letH (wrs H13 ((⟨H3.size, 0, none⟩ : Addr).add 3) [.slice x9.p x9.n x9.c]) (fun H14 : Heap =>
  ∃ x10 : Sl, rd H14 ((⟨H.size, 0, none⟩ : Addr).add 4) = some (.slice x10.p x10.n x10.c) ∧ (
  CallsH Try.prog n_gen_ranges #[.slice x10.p x10.n x10.c, .int .u64 (0 : Int), .int .u64 (65536 : Int), .int .u64 (256 : Int), .int .i64 (2 : Int)] H14 (fun v5 H15 =>
  ∃ x11 : Sl, v5 = .slice x11.p x11.n x11.c ∧ (
  okRow H15 ((⟨H3.size, 0, none⟩ : Addr).add 4) 1 ∧ (
  letH (wrs H15 ((⟨H3.size, 0, none⟩ : Addr).add 4) [.slice x11.p x11.n x11.c]) (fun H16 : Heap =>
  ∃ x12 : Sl, rd H16 ((⟨H.size, 0, none⟩ : Addr).add 5) = some (.slice x12.p x12.n x12.c) ∧ (
  CallsH Try.prog n_gen_ranges #[.slice x12.p x12.n x12.c, .int .u64 (0 : Int), .int .u64 (4294967296 : Int), .int .u64 (65536 : Int), .int .i64 (2 : Int)] H16 (fun v6 H17 =>
  ∃ x13 : Sl, v6 = .slice x13.p x13.n x13.c ∧ (
  okRow H17 ((⟨H3.size, 0, none⟩ : Addr).add 5) 1 ∧ (
  letH (wrs H17 ((⟨H3.size, 0, none⟩ : Addr).add 5) [.slice x13.p x13.n x13.c]) (fun H18 : Heap =>
  ∃ J_1 : Heap → Prop, (
  ∃ x14 : Int, rd H18 (⟨H.size, 0, none⟩ : Addr) = some (.int .i64 x14) ∧ (
  CallsH Try.prog n_help_Mod #[.int .i64 x14, .int .i64 (3 : Int)] H18 (fun v7 H19 =>
  ∃ x15 : Int, v7 = .int .i64 x15 ∧ (
  iteB (decide (x15 > (0 : Int))) (
  ∃ x16 : Sl, rd H19 ((⟨H3.size, 0, none⟩ : Addr).add 4) = some (.slice x16.p x16.n x16.c) ∧ (
  0 ≤ (0 : Int) ∧ (0 : Int) ≤ (x16.c : Int) ∧ (
  letH (H19.push (.cells #[.int .u64 (4096 : Int), .int .u64 (61440 : Int)] t_api_Range (0, 0))) (fun H20 : Heap =>
  Keeps H19 H20 [(((⟨H3.size, 0, none⟩ : Addr).add 4), 1)] ∧ (
  okRow H20 ((⟨H3.size, 0, none⟩ : Addr).add 1) 1 ∧ (
  letH (wrs H20 ((⟨H3.size, 0, none⟩ : Addr).add 1) [.slice (some (⟨H19.size, 0, none⟩ : Addr)) 1 1]) (fun H21 : Heap =>
  okRow H21 ((⟨H3.size, 0, none⟩ : Addr).add 4) 1 ∧ (
  letH (wrs H21 ((⟨H3.size, 0, none⟩ : Addr).add 4) [.slice (slP x16.p x16.c 0 2) ((0 : Int).toNat - 0) (x16.c - 0)]) (fun H22 : Heap =>
  ∃ x17 : Sl, rd H22 ((⟨H3.size, 0, none⟩ : Addr).add 5) = some (.slice x17.p x17.n x17.c) ∧ (
  0 ≤ (0 : Int) ∧ (0 : Int) ≤ (x17.c : Int) ∧ (
  letH (H22.push (.cells #[.int .u64 (268435456 : Int), .int .u64 (4026531840 : Int)] t_api_Range (0, 0))) (fun H23 : Heap =>
  Keeps H22 H23 [(((⟨H3.size, 0, none⟩ : Addr).add 5), 1)] ∧ (
  okRow H23 ((⟨H3.size, 0, none⟩ : Addr).add 2) 1 ∧ (
  letH (wrs H23 ((⟨H3.size, 0, none⟩ : Addr).add 2) [.slice (some (⟨H22.size, 0, none⟩ : Addr)) 1 1]) (fun H24 : Heap =>
  okRow H24 ((⟨H3.size, 0, none⟩ : Addr).add 5) 1 ∧ (
  letH (wrs H24 ((⟨H3.size, 0, none⟩ : Addr).add 5) [.slice (slP x17.p x17.c 0 2) ((0 : Int).toNat - 0) (x17.c - 0)]) (fun H25 : Heap =>
  J_1 H25))))))))))))))))) (
  J_1 H19))))) ∧ (∀ H26 : Heap, J_1 H26 → F_gen_Host_k7 R H H1 H3 H26))))))))))))))))))))))))))

def F_gen_Host (R : Value → Heap → Prop) (h_0 : Int) (h_1 : Sl) (h_2 : Sl) (h_3 : Sl) (h_4 : Sl) (h_5 : Sl) (h_6 : Sl) (h_7 : Sl) (H : Heap) : Prop :=
  letH (H.push (.cells #[.int .i64 h_0, .slice h_1.p h_1.n h_1.c, .slice h_2.p h_2.n h_2.c, .slice h_3.p h_3.n h_3.c, .slice h_4.p h_4.n h_4.c, .slice h_5.p h_5.n h_5.c, .slice h_6.p h_6.n h_6.c, .slice h_7.p h_7.n h_7.c] t_api_Host (0, 0))) (fun H1 : Heap =>
  letH (H1.push (.cells #[.int .i64 (0 : Int), .slice none 0 0, .slice none 0 0, .slice none 0 0, .slice none 0 0, .slice none 0 0, .slice none 0 0, .slice none 0 0] t_api_Host (0, 0))) (fun H2 : Heap =>
  ∃ x : Int, rd H2 (⟨H.size, 0, none⟩ : Addr) = some (.int .i64 x) ∧ (
  CallsH Try.prog n_help_Mod #[.int .i64 x, .int .i64 (40 : Int)] H2 (fun v H3 =>
  ∃ x1 : Int, v = .int .i64 x1 ∧ (
  letH (H3.push (.cells #[.int .i64 (0 : Int), .slice none 0 0, .slice none 0 0, .slice none 0 0, .slice none 0 0, .slice none 0 0, .slice none 0 0, .slice none 0 0] t_api_Host (0, 0))) (fun H4 : Heap =>
  okRow H4 (⟨H3.size, 0, none⟩ : Addr) 8 ∧ (
  letH (wrs H4 (⟨H3.size, 0, none⟩ : Addr) [.int .i64 (IntKind.i64.wrap ((1 : Int) + x1)), .slice none 0 0, .slice none 0 0, .slice none 0 0, .slice none 0 0, .slice none 0 0, .slice none 0 0, .slice none 0 0]) (fun H5 : Heap =>
  ∃ J_ : Heap → Prop, (
  ∃ x2 : Int, rd H5 (⟨H.size, 0, none⟩ : Addr) = some (.int .i64 x2) ∧ (
  CallsH Try.prog n_help_Mod #[.int .i64 x2, .int .i64 (5 : Int)] H5 (fun v1 H6 =>
  ∃ x3 : Int, v1 = .int .i64 x3 ∧ (
  iteB (decide (x3 > (0 : Int))) (
  okRow H6 (⟨H3.size, 0, none⟩ : Addr) 1 ∧ (
  letH (wrs H6 (⟨H3.size, 0, none⟩ : Addr) [.int .i64 (256 : Int)]) (fun H7 : Heap =>
  J_ H7))) (
  J_ H6))))) ∧ (∀ H8 : Heap, J_ H8 → F_gen_Host_k8 R H H1 H3 H8)))))))))

theorem F_gen_Host_eq (R : Value → Heap → Prop) (h_0 : Int) (h_1 : Sl) (h_2 : Sl) (h_3 : Sl) (h_4 : Sl) (h_5 : Sl) (h_6 : Sl) (h_7 : Sl) (H : Heap) : wpF Try.prog Try.f7 [(4, .int .i64 0), (6, .int .i64 0), (7, .int .i64 0)] [(4, [], [1, 2, 3]), (12, [], [1, 2, 3]), (19, [], [1, 2, 3]), (18, [], [1, 2, 3, 4, 5]), (23, [], [2, 3])] [(13, [4], [1, 2, 3]), (20, [6], [1, 2, 3]), (24, [7], [2, 3])] [20] [.agg #[.int .i64 h_0, .slice h_1.p h_1.n h_1.c, .slice h_2.p h_2.n h_2.c, .slice h_3.p h_3.n h_3.c, .slice h_4.p h_4.n h_4.c, .slice h_5.p h_5.n h_5.c, .slice h_6.p h_6.n h_6.c, .slice h_7.p h_7.n h_7.c]] H R = F_gen_Host R h_0 h_1 h_2 h_3 h_4 h_5 h_6 h_7 H := by kernel_rfl

theorem F_gen_Host_ok {R : Value → Heap → Prop} (h_0 : Int) (h_1 : Sl) (h_2 : Sl) (h_3 : Sl) (h_4 : Sl) (h_5 : Sl) (h_6 : Sl) (h_7 : Sl) {H : Heap} (h : F_gen_Host R h_0 h_1 h_2 h_3 h_4 h_5 h_6 h_7 H) : CallsH Try.prog n_gen_Host #[.agg #[.int .i64 h_0, .slice h_1.p h_1.n h_1.c, .slice h_2.p h_2.n h_2.c, .slice h_3.p h_3.n h_3.c, .slice h_4.p h_4.n h_4.c, .slice h_5.p h_5.n h_5.c, .slice h_6.p h_6.n h_6.c, .slice h_7.p h_7.n h_7.c]] H R :=
  wpF_ok Try.func7 (F_gen_Host_eq R h_0 h_1 h_2 h_3 h_4 h_5 h_6 h_7 H) h

/-! ### 8: platformfw/platformfwlaw23.port -/

def F_law23_port_r1 (R : Value → Heap → Prop) (t : Sl) (atv : Int) (I_ : Sl → Int → Heap → Prop) (M_ : Sl → Int → Heap → Nat) (l : Sl) (i : Int) (H1 : Heap) : Prop :=
  iteB (decide (i < (t.n : Int))) (
  0 ≤ i ∧ i < (t.n : Int) ∧ (unSome t.p (fun a =>
  ∃ x : Bool, rd H1 ((a.add (i.toNat * 11)).add 6) = some (.bool x) ∧ (
  iteB x (
  letH (H1.push (.cells #[.int .i64 i] t_int (0, 0))) (fun H2 : Heap =>
  runH Try.prog (Builtin.append_ #[t_sl_int, t_sl_int] t_sl_int #[.slice l.p l.n l.c, .slice (some (⟨H1.size, 0, none⟩ : Addr)) 1 1]) H2 (fun v H3 =>
  ∃ l1 : Sl, v = .slice l1.p l1.n l1.c ∧ (
  letV (IntKind.i64.wrap (i + (1 : Int))) (fun i1 : Int =>
  I_ l1 i1 H3 ∧ M_ l1 i1 H3 < M_ l i H1))))) (
  letV (IntKind.i64.wrap (i + (1 : Int))) (fun i2 : Int =>
  I_ l i2 H1 ∧ M_ l i2 H1 < M_ l i H1)))))) (
  iteB ((l.n : Int) == (0 : Int)) (
  R (.int .i64 (-1 : Int)) H1) (
  CallsH Try.prog n_help_Mod #[.int .i64 atv, .int .i64 (l.n : Int)] H1 (fun v1 H4 =>
  ∃ x1 : Int, v1 = .int .i64 x1 ∧ (
  0 ≤ x1 ∧ x1 < (l.n : Int) ∧ (unSome l.p (fun a1 =>
  ∃ x2 : Int, rd H4 (a1.add (x1.toNat * 1)) = some (.int .i64 x2) ∧ (
  R (.int .i64 x2) H4)))))))

def F_law23_port (R : Value → Heap → Prop) (t : Sl) (atv : Int) (H : Heap) : Prop :=
  ∃ I_ : Sl → Int → Heap → Prop, ∃ M_ : Sl → Int → Heap → Nat, I_ (Sl.mk none 0 0) (0 : Int) H ∧ (∀ l : Sl, ∀ i : Int, ∀ H1 : Heap, I_ l i H1 → F_law23_port_r1 R t atv I_ M_ l i H1)

theorem F_law23_port_eq (R : Value → Heap → Prop) (t : Sl) (atv : Int) (H : Heap) : wpF Try.prog Try.f8 [(5, .slice none 0 0), (6, .int .i64 0)] [] [(3, [5, 6], [0, 1])] [20] [.slice t.p t.n t.c, .int .i64 atv] H R = F_law23_port R t atv H := by kernel_rfl

theorem F_law23_port_ok {R : Value → Heap → Prop} (t : Sl) (atv : Int) {H : Heap} (h : F_law23_port R t atv H) : CallsH Try.prog n_law23_port #[.slice t.p t.n t.c, .int .i64 atv] H R :=
  wpF_ok Try.func8 (F_law23_port_eq R t atv H) h

/-! ### 9: platformfw/platformfwref21.Assign -/

def F_ref21_Assign_r1 (l : Sl) (H7 : Heap) (x12 : Sl) (I_2 : Int → Heap → Prop) (M_2 : Int → Heap → Nat) (i2 : Int) (H18 : Heap) (I_3 : Int → Heap → Prop) (M_3 : Int → Heap → Nat) (classv2 : Int) (H19 : Heap) : Prop :=
  iteB (decide (classv2 < (3 : Int))) (
  CallsH Try.prog n_ref21_at #[.slice (some (⟨H7.size, 0, none⟩ : Addr)) ((x12.n : Int).toNat) ((x12.n : Int).toNat), .int .i64 i2, .int .i64 (IntKind.i64.wrap ((-1 : Int) - classv2))] H19 (fun v5 H20 =>
  ∃ w : Int, v5 = .int .i64 w ∧ (
  iteB (decide (w ≥ (0 : Int))) (
  0 ≤ w ∧ w < ((x12.n : Int).toNat : Int) ∧ (∃ x36 : Int, rd H20 (((⟨H7.size, 0, none⟩ : Addr).add (w.toNat * 5)).add 4) = some (.int .u64 x36) ∧ (
  0 ≤ w ∧ w < ((x12.n : Int).toNat : Int) ∧ (∃ x37 : Int, rd H20 (((⟨H7.size, 0, none⟩ : Addr).add (w.toNat * 5)).add 3) = some (.int .i64 x37) ∧ (
  0 ≤ (IntKind.u64.wrap x37) ∧ (
  letH (H20.push (.cells #[.int .u64 x36, .int .u64 (IntKind.u64.wrap ((1 : Int) * 2 ^ (min (IntKind.u64.wrap x37).toNat IntKind.u64.bits)))] t_api_Range (0, 0))) (fun H21 : Heap =>
  CallsH Try.prog n_ref21_place #[.slice l.p l.n l.c, .slice (some (⟨H7.size, 0, none⟩ : Addr)) ((x12.n : Int).toNat) ((x12.n : Int).toNat), .slice x12.p x12.n x12.c, .int .i64 i2, .int .i64 classv2, .slice (some (⟨H20.size, 0, none⟩ : Addr)) 1 1] H21 (fun v6 H22 =>
  ∃ x38 : Int, ∃ x39 : Int, ∃ x40 : Int, ∃ x41 : Int, ∃ x42 : Int, v6 = .tuple #[.agg #[.int .i64 x38, .int .i64 x39, .int .u64 x40, .int .u64 x41], .int .i64 x42] ∧ (
  letV (IntKind.i64.wrap (classv2 + (1 : Int))) (fun classv3 : Int =>
  I_3 classv3 H22 ∧ M_3 classv3 H22 < M_3 classv2 H19)))))))))) (
  letV (IntKind.i64.wrap (classv2 + (1 : Int))) (fun classv4 : Int =>
  I_3 classv4 H20 ∧ M_3 classv4 H20 < M_3 classv2 H19))))) (
  letV (IntKind.i64.wrap (i2 + (1 : Int))) (fun i3 : Int =>
  I_2 i3 H19 ∧ M_2 i3 H19 < M_2 i2 H18))

def F_ref21_Assign_r2 (R : Value → Heap → Prop) (l : Sl) (H1 : Heap) (H7 : Heap) (x12 : Sl) (I_2 : Int → Heap → Prop) (M_2 : Int → Heap → Nat) (i2 : Int) (H18 : Heap) : Prop :=
  iteB (decide (i2 < (l.n : Int))) (
  ∃ I_3 : Int → Heap → Prop, ∃ M_3 : Int → Heap → Nat, I_3 (0 : Int) H18 ∧ (∀ classv2 : Int, ∀ H19 : Heap, I_3 classv2 H19 → F_ref21_Assign_r1 l H7 x12 I_2 M_2 i2 H18 I_3 M_3 classv2 H19)) (
  okRow H18 (⟨H1.size, 0, none⟩ : Addr) 4 ∧ (
  letH (wrs H18 (⟨H1.size, 0, none⟩ : Addr) [.int .i64 (0 : Int), .int .i64 (0 : Int), .int .u64 (0 : Int), .int .u64 (0 : Int)]) (fun H23 : Heap =>
  ∃ r12 : Int, rd H23 (⟨H1.size, 0, none⟩ : Addr) = some (.int .i64 r12) ∧ ∃ r13 : Int, rd H23 ((⟨H1.size, 0, none⟩ : Addr).add 1) = some (.int .i64 r13) ∧ ∃ r14 : Int, rd H23 ((⟨H1.size, 0, none⟩ : Addr).add 2) = some (.int .u64 r14) ∧ ∃ r15 : Int, rd H23 ((⟨H1.size, 0, none⟩ : Addr).add 3) = some (.int .u64 r15) ∧ (
  R (.tuple #[.slice (some (⟨H7.size, 0, none⟩ : Addr)) ((x12.n : Int).toNat) ((x12.n : Int).toNat), .agg #[.int .i64 r12, .int .i64 r13, .int .u64 r14, .int .u64 r15], .int .i64 (0 : Int)]) H23))))

def F_ref21_Assign_r3 (R : Value → Heap → Prop) (H : Heap) (l : Sl) (H1 : Heap) (H7 : Heap) (x12 : Sl) (I_1 : Int → Heap → Prop) (M_1 : Int → Heap → Nat) (classv : Int) (H12 : Heap) : Prop :=
  iteB (decide (classv < (3 : Int))) (
  ∃ x18 : Int, rd H12 (⟨H.size, 0, none⟩ : Addr) = some (.int .i64 x18) ∧ ∃ x19 : Sl, rd H12 ((⟨H.size, 0, none⟩ : Addr).add 1) = some (.slice x19.p x19.n x19.c) ∧ ∃ x20 : Sl, rd H12 ((⟨H.size, 0, none⟩ : Addr).add 2) = some (.slice x20.p x20.n x20.c) ∧ ∃ x21 : Sl, rd H12 ((⟨H.size, 0, none⟩ : Addr).add 3) = some (.slice x21.p x21.n x21.c) ∧ ∃ x22 : Sl, rd H12 ((⟨H.size, 0, none⟩ : Addr).add 4) = some (.slice x22.p x22.n x22.c) ∧ ∃ x23 : Sl, rd H12 ((⟨H.size, 0, none⟩ : Addr).add 5) = some (.slice x23.p x23.n x23.c) ∧ ∃ x24 : Sl, rd H12 ((⟨H.size, 0, none⟩ : Addr).add 6) = some (.slice x24.p x24.n x24.c) ∧ ∃ x25 : Sl, rd H12 ((⟨H.size, 0, none⟩ : Addr).add 7) = some (.slice x25.p x25.n x25.c) ∧ (
  CallsH Try.prog n_ref21_Space #[.agg #[.int .i64 x18, .slice x19.p x19.n x19.c, .slice x20.p x20.n x20.c, .slice x21.p x21.n x21.c, .slice x22.p x22.n x22.c, .slice x23.p x23.n x23.c, .slice x24.p x24.n x24.c, .slice x25.p x25.n x25.c], .int .i64 classv] H12 (fun v3 H13 =>
  ∃ x26 : Sl, v3 = .slice x26.p x26.n x26.c ∧ (
  CallsH Try.prog n_ref21_place #[.slice l.p l.n l.c, .slice (some (⟨H7.size, 0, none⟩ : Addr)) ((x12.n : Int).toNat) ((x12.n : Int).toNat), .slice x12.p x12.n x12.c, .int .i64 (-1 : Int), .int .i64 classv, .slice x26.p x26.n x26.c] H13 (fun v4 H14 =>
  ∃ x27 : Int, ∃ x28 : Int, ∃ x29 : Int, ∃ x30 : Int, ∃ x31 : Int, v4 = .tuple #[.agg #[.int .i64 x27, .int .i64 x28, .int .u64 x29, .int .u64 x30], .int .i64 x31] ∧ (
  letH (H14.push (.cells #[.int .i64 (0 : Int), .int .i64 (0 : Int), .int .u64 (0 : Int), .int .u64 (0 : Int)] t_api_Certificate (0, 0))) (fun H15 : Heap =>
  okRow H15 (⟨H14.size, 0, none⟩ : Addr) 4 ∧ (
  letH (wrs H15 (⟨H14.size, 0, none⟩ : Addr) [.int .i64 x27, .int .i64 x28, .int .u64 x29, .int .u64 x30]) (fun H16 : Heap =>
  iteB (x31 != (0 : Int)) (
  ∃ x32 : Int, rd H16 (⟨H14.size, 0, none⟩ : Addr) = some (.int .i64 x32) ∧ ∃ x33 : Int, rd H16 ((⟨H14.size, 0, none⟩ : Addr).add 1) = some (.int .i64 x33) ∧ ∃ x34 : Int, rd H16 ((⟨H14.size, 0, none⟩ : Addr).add 2) = some (.int .u64 x34) ∧ ∃ x35 : Int, rd H16 ((⟨H14.size, 0, none⟩ : Addr).add 3) = some (.int .u64 x35) ∧ (
  okRow H16 (⟨H1.size, 0, none⟩ : Addr) 4 ∧ (
  letH (wrs H16 (⟨H1.size, 0, none⟩ : Addr) [.int .i64 x32, .int .i64 x33, .int .u64 x34, .int .u64 x35]) (fun H17 : Heap =>
  ∃ r8 : Int, rd H17 (⟨H1.size, 0, none⟩ : Addr) = some (.int .i64 r8) ∧ ∃ r9 : Int, rd H17 ((⟨H1.size, 0, none⟩ : Addr).add 1) = some (.int .i64 r9) ∧ ∃ r10 : Int, rd H17 ((⟨H1.size, 0, none⟩ : Addr).add 2) = some (.int .u64 r10) ∧ ∃ r11 : Int, rd H17 ((⟨H1.size, 0, none⟩ : Addr).add 3) = some (.int .u64 r11) ∧ (
  R (.tuple #[.slice none 0 0, .agg #[.int .i64 r8, .int .i64 r9, .int .u64 r10, .int .u64 r11], .int .i64 x31]) H17))))) (
  letV (IntKind.i64.wrap (classv + (1 : Int))) (fun classv1 : Int =>
  I_1 classv1 H16 ∧ M_1 classv1 H16 < M_1 classv H12))))))))))) (
  ∃ I_2 : Int → Heap → Prop, ∃ M_2 : Int → Heap → Nat, I_2 (0 : Int) H12 ∧ (∀ i2 : Int, ∀ H18 : Heap, I_2 i2 H18 → F_ref21_Assign_r2 R l H1 H7 x12 I_2 M_2 i2 H18))

def F_ref21_Assign_r4 (R : Value → Heap → Prop) (H : Heap) (l : Sl) (H1 : Heap) (H7 : Heap) (x12 : Sl) (I_ : Int → Heap → Prop) (M_ : Int → Heap → Nat) (i : Int) (H10 : Heap) : Prop :=
  iteB (decide (i < (x12.n : Int))) (
  0 ≤ i ∧ i < (x12.n : Int) ∧ (unSome x12.p (fun a =>
  ∃ x14 : Int, rd H10 (a.add (i.toNat * 4)) = some (.int .i64 x14) ∧ ∃ x15 : Int, rd H10 ((a.add (i.toNat * 4)).add 1) = some (.int .i64 x15) ∧ ∃ x16 : Int, rd H10 ((a.add (i.toNat * 4)).add 2) = some (.int .i64 x16) ∧ ∃ x17 : Int, rd H10 ((a.add (i.toNat * 4)).add 3) = some (.int .i64 x17) ∧ (
  0 ≤ i ∧ i < ((x12.n : Int).toNat : Int) ∧ (okRow H10 ((⟨H7.size, 0, none⟩ : Addr).add (i.toNat * 5)) 4 ∧ (
  letH (wrs H10 ((⟨H7.size, 0, none⟩ : Addr).add (i.toNat * 5)) [.int .i64 x14, .int .i64 x15, .int .i64 x16, .int .i64 x17]) (fun H11 : Heap =>
  letV (IntKind.i64.wrap (i + (1 : Int))) (fun i1 : Int =>
  I_ i1 H11 ∧ M_ i1 H11 < M_ i H10)))))))) (
  ∃ I_1 : Int → Heap → Prop, ∃ M_1 : Int → Heap → Nat, I_1 (0 : Int) H10 ∧ (∀ classv : Int, ∀ H12 : Heap, I_1 classv H12 → F_ref21_Assign_r3 R H l H1 H7 x12 I_1 M_1 classv H12))

def F_ref21_Assign_k5 (R : Value → Heap → Prop) (H : Heap) (l : Sl) (H1 : Heap) (x10 : Bool) (H5 : Heap) : Prop :=
  iteB x10 (
  okRow H5 (⟨H1.size, 0, none⟩ : Addr) 4 ∧ (
  letH (wrs H5 (⟨H1.size, 0, none⟩ : Addr) [.int .i64 (0 : Int), .int .i64 (0 : Int), .int .u64 (0 : Int), .int .u64 (0 : Int)]) (fun H6 : Heap =>
  ∃ r : Int, rd H6 (⟨H1.size, 0, none⟩ : Addr) = some (.int .i64 r) ∧ ∃ r1 : Int, rd H6 ((⟨H1.size, 0, none⟩ : Addr).add 1) = some (.int .i64 r1) ∧ ∃ r2 : Int, rd H6 ((⟨H1.size, 0, none⟩ : Addr).add 2) = some (.int .u64 r2) ∧ ∃ r3 : Int, rd H6 ((⟨H1.size, 0, none⟩ : Addr).add 3) = some (.int .u64 r3) ∧ (
  R (.tuple #[.slice none 0 0, .agg #[.int .i64 r, .int .i64 r1, .int .u64 r2, .int .u64 r3], .int .i64 (1 : Int)]) H6)))) (
  ∃ x11 : Sl, rd H5 ((⟨H.size, 0, none⟩ : Addr).add 3) = some (.slice x11.p x11.n x11.c) ∧ (
  CallsH Try.prog n_ref18_Needs #[.slice l.p l.n l.c, .bool (decide ((x11.n : Int) > (0 : Int)))] H5 (fun v2 H7 =>
  ∃ x12 : Sl, ∃ x13 : Int, v2 = .tuple #[.slice x12.p x12.n x12.c, .int .i64 x13] ∧ (
  iteB (x13 != (0 : Int)) (
  okRow H7 (⟨H1.size, 0, none⟩ : Addr) 4 ∧ (
  letH (wrs H7 (⟨H1.size, 0, none⟩ : Addr) [.int .i64 (0 : Int), .int .i64 (0 : Int), .int .u64 (0 : Int), .int .u64 (0 : Int)]) (fun H8 : Heap =>
  ∃ r4 : Int, rd H8 (⟨H1.size, 0, none⟩ : Addr) = some (.int .i64 r4) ∧ ∃ r5 : Int, rd H8 ((⟨H1.size, 0, none⟩ : Addr).add 1) = some (.int .i64 r5) ∧ ∃ r6 : Int, rd H8 ((⟨H1.size, 0, none⟩ : Addr).add 2) = some (.int .u64 r6) ∧ ∃ r7 : Int, rd H8 ((⟨H1.size, 0, none⟩ : Addr).add 3) = some (.int .u64 r7) ∧ (
  R (.tuple #[.slice none 0 0, .agg #[.int .i64 r4, .int .i64 r5, .int .u64 r6, .int .u64 r7], .int .i64 x13]) H8)))) (
  0 ≤ (x12.n : Int) ∧ (x12.n : Int) ≤ (x12.n : Int) ∧ (x12.n : Int) * ((40 : Nat) : Int) ≤ 281474976710656 ∧ (
  letH (H7.push (.cells (zeroRow (.agg #[.int .i64 (0 : Int), .int .i64 (0 : Int), .int .i64 (0 : Int), .int .i64 (0 : Int), .int .u64 (0 : Int)]) (x12.n : Int).toNat) t_api_Assignment (0, 0))) (fun H9 : Heap =>
  ∃ I_ : Int → Heap → Prop, ∃ M_ : Int → Heap → Nat, I_ (0 : Int) H9 ∧ (∀ i : Int, ∀ H10 : Heap, I_ i H10 → F_ref21_Assign_r4 R H l H1 H7 x12 I_ M_ i H10))))))))

def F_ref21_Assign (R : Value → Heap → Prop) (l : Sl) (h_0 : Int) (h_1 : Sl) (h_2 : Sl) (h_3 : Sl) (h_4 : Sl) (h_5 : Sl) (h_6 : Sl) (h_7 : Sl) (H : Heap) : Prop :=
  letH (H.push (.cells #[.int .i64 h_0, .slice h_1.p h_1.n h_1.c, .slice h_2.p h_2.n h_2.c, .slice h_3.p h_3.n h_3.c, .slice h_4.p h_4.n h_4.c, .slice h_5.p h_5.n h_5.c, .slice h_6.p h_6.n h_6.c, .slice h_7.p h_7.n h_7.c] t_api_Host (0, 0))) (fun H1 : Heap =>
  letH (H1.push (.cells #[.int .i64 (0 : Int), .int .i64 (0 : Int), .int .u64 (0 : Int), .int .u64 (0 : Int)] t_api_Certificate (0, 0))) (fun H2 : Heap =>
  ∃ J_ : Bool → Heap → Prop, (
  CallsH Try.prog n_ref18_Valid #[.slice l.p l.n l.c] H2 (fun v H3 =>
  ∃ x : Bool, v = .bool x ∧ (
  iteB (!x) (
  J_ true H3) (
  ∃ x1 : Int, rd H3 (⟨H.size, 0, none⟩ : Addr) = some (.int .i64 x1) ∧ ∃ x2 : Sl, rd H3 ((⟨H.size, 0, none⟩ : Addr).add 1) = some (.slice x2.p x2.n x2.c) ∧ ∃ x3 : Sl, rd H3 ((⟨H.size, 0, none⟩ : Addr).add 2) = some (.slice x3.p x3.n x3.c) ∧ ∃ x4 : Sl, rd H3 ((⟨H.size, 0, none⟩ : Addr).add 3) = some (.slice x4.p x4.n x4.c) ∧ ∃ x5 : Sl, rd H3 ((⟨H.size, 0, none⟩ : Addr).add 4) = some (.slice x5.p x5.n x5.c) ∧ ∃ x6 : Sl, rd H3 ((⟨H.size, 0, none⟩ : Addr).add 5) = some (.slice x6.p x6.n x6.c) ∧ ∃ x7 : Sl, rd H3 ((⟨H.size, 0, none⟩ : Addr).add 6) = some (.slice x7.p x7.n x7.c) ∧ ∃ x8 : Sl, rd H3 ((⟨H.size, 0, none⟩ : Addr).add 7) = some (.slice x8.p x8.n x8.c) ∧ (
  CallsH Try.prog n_ref21_ValidHost #[.agg #[.int .i64 x1, .slice x2.p x2.n x2.c, .slice x3.p x3.n x3.c, .slice x4.p x4.n x4.c, .slice x5.p x5.n x5.c, .slice x6.p x6.n x6.c, .slice x7.p x7.n x7.c, .slice x8.p x8.n x8.c]] H3 (fun v1 H4 =>
  ∃ x9 : Bool, v1 = .bool x9 ∧ (
  J_ (!x9) H4))))))) ∧ (∀ x10 : Bool, ∀ H5 : Heap, J_ x10 H5 → F_ref21_Assign_k5 R H l H1 x10 H5)))

theorem F_ref21_Assign_eq (R : Value → Heap → Prop) (l : Sl) (h_0 : Int) (h_1 : Sl) (h_2 : Sl) (h_3 : Sl) (h_4 : Sl) (h_5 : Sl) (h_6 : Sl) (h_7 : Sl) (H : Heap) : wpF Try.prog Try.f9 [(10, .int .i64 0), (11, .int .i64 0), (14, .int .i64 0), (15, .int .i64 0), (24, .bool false)] [(2, [24], [0, 3, 5])] [(8, [10], [0, 3, 5, 7, 9]), (12, [11], [0, 3, 5, 7, 9]), (18, [14], [0, 5, 7, 9]), (21, [15], [0, 5, 7, 9, 14])] [20] [.slice l.p l.n l.c, .agg #[.int .i64 h_0, .slice h_1.p h_1.n h_1.c, .slice h_2.p h_2.n h_2.c, .slice h_3.p h_3.n h_3.c, .slice h_4.p h_4.n h_4.c, .slice h_5.p h_5.n h_5.c, .slice h_6.p h_6.n h_6.c, .slice h_7.p h_7.n h_7.c]] H R = F_ref21_Assign R l h_0 h_1 h_2 h_3 h_4 h_5 h_6 h_7 H := by kernel_rfl

theorem F_ref21_Assign_ok {R : Value → Heap → Prop} (l : Sl) (h_0 : Int) (h_1 : Sl) (h_2 : Sl) (h_3 : Sl) (h_4 : Sl) (h_5 : Sl) (h_6 : Sl) (h_7 : Sl) {H : Heap} (h : F_ref21_Assign R l h_0 h_1 h_2 h_3 h_4 h_5 h_6 h_7 H) : CallsH Try.prog n_ref21_Assign #[.slice l.p l.n l.c, .agg #[.int .i64 h_0, .slice h_1.p h_1.n h_1.c, .slice h_2.p h_2.n h_2.c, .slice h_3.p h_3.n h_3.c, .slice h_4.p h_4.n h_4.c, .slice h_5.p h_5.n h_5.c, .slice h_6.p h_6.n h_6.c, .slice h_7.p h_7.n h_7.c]] H R :=
  wpF_ok Try.func9 (F_ref21_Assign_eq R l h_0 h_1 h_2 h_3 h_4 h_5 h_6 h_7 H) h

/-! ### 10: platformfw/hotplug.Remove -/

def F_hotplug_Remove_k1 (I_ : Sl → Int → Heap → Prop) (M_ : Sl → Int → Heap → Nat) (restv : Sl) (x2 : Int) (H5 : Heap) (H11 : Heap) (H15 : Heap) : Prop :=
  ∃ x44 : Int, rd H15 (⟨H11.size, 0, none⟩ : Addr) = some (.int .i64 x44) ∧ ∃ x45 : Int, rd H15 ((⟨H11.size, 0, none⟩ : Addr).add 1) = some (.int .i64 x45) ∧ ∃ x46 : Int, rd H15 ((⟨H11.size, 0, none⟩ : Addr).add 2) = some (.int .i64 x46) ∧ ∃ x47 : Int, rd H15 ((⟨H11.size, 0, none⟩ : Addr).add 3) = some (.int .i64 x47) ∧ ∃ x48 : Bool, rd H15 ((⟨H11.size, 0, none⟩ : Addr).add 4) = some (.bool x48) ∧ ∃ x49 : Bool, rd H15 ((⟨H11.size, 0, none⟩ : Addr).add 5) = some (.bool x49) ∧ ∃ x50 : Bool, rd H15 ((⟨H11.size, 0, none⟩ : Addr).add 6) = some (.bool x50) ∧ ∃ x51 : Int, rd H15 ((⟨H11.size, 0, none⟩ : Addr).add 7) = some (.int .i64 x51) ∧ ∃ x52 : Int, rd H15 ((⟨H11.size, 0, none⟩ : Addr).add 8) = some (.int .i64 x52) ∧ ∃ x53 : Int, rd H15 ((⟨H11.size, 0, none⟩ : Addr).add 9) = some (.int .i64 x53) ∧ ∃ x54 : Sl, rd H15 ((⟨H11.size, 0, none⟩ : Addr).add 10) = some (.slice x54.p x54.n x54.c) ∧ (
  letH (H15.push (.cells #[.int .i64 x44, .int .i64 x45, .int .i64 x46, .int .i64 x47, .bool x48, .bool x49, .bool x50, .int .i64 x51, .int .i64 x52, .int .i64 x53, .slice x54.p x54.n x54.c] t_api_Function (0, 0))) (fun H16 : Heap =>
  runH Try.prog (Builtin.append_ #[t_sl_api_Function, t_sl_api_Function] t_sl_api_Function #[.slice restv.p restv.n restv.c, .slice (some (⟨H15.size, 0, none⟩ : Addr)) 1 1]) H16 (fun v3 H17 =>
  ∃ restv1 : Sl, v3 = .slice restv1.p restv1.n restv1.c ∧ (
  I_ restv1 (IntKind.i64.wrap (x2 + (1 : Int))) H17 ∧ M_ restv1 (IntKind.i64.wrap (x2 + (1 : Int))) H17 < M_ restv x2 H5))))

def F_hotplug_Remove_k2 (l : Sl) (H2 : Heap) (I_ : Sl → Int → Heap → Prop) (M_ : Sl → Int → Heap → Nat) (restv : Sl) (x2 : Int) (H5 : Heap) (x18 : Bool) (H8 : Heap) : Prop :=
  iteB x18 (
  0 ≤ x2 ∧ x2 < ((l.n : Int).toNat : Int) ∧ (okRow H8 ((⟨H2.size, 0, none⟩ : Addr).add (x2.toNat * 1)) 1 ∧ (
  letH (wrs H8 ((⟨H2.size, 0, none⟩ : Addr).add (x2.toNat * 1)) [.int .i64 (-1 : Int)]) (fun H9 : Heap =>
  I_ restv (IntKind.i64.wrap (x2 + (1 : Int))) H9 ∧ M_ restv (IntKind.i64.wrap (x2 + (1 : Int))) H9 < M_ restv x2 H5)))) (
  0 ≤ x2 ∧ x2 < ((l.n : Int).toNat : Int) ∧ (okRow H8 ((⟨H2.size, 0, none⟩ : Addr).add (x2.toNat * 1)) 1 ∧ (
  letH (wrs H8 ((⟨H2.size, 0, none⟩ : Addr).add (x2.toNat * 1)) [.int .i64 (restv.n : Int)]) (fun H10 : Heap =>
  ∃ x19 : Int, rd H10 (⟨H5.size, 0, none⟩ : Addr) = some (.int .i64 x19) ∧ ∃ x20 : Int, rd H10 ((⟨H5.size, 0, none⟩ : Addr).add 1) = some (.int .i64 x20) ∧ ∃ x21 : Int, rd H10 ((⟨H5.size, 0, none⟩ : Addr).add 2) = some (.int .i64 x21) ∧ ∃ x22 : Int, rd H10 ((⟨H5.size, 0, none⟩ : Addr).add 3) = some (.int .i64 x22) ∧ ∃ x23 : Bool, rd H10 ((⟨H5.size, 0, none⟩ : Addr).add 4) = some (.bool x23) ∧ ∃ x24 : Bool, rd H10 ((⟨H5.size, 0, none⟩ : Addr).add 5) = some (.bool x24) ∧ ∃ x25 : Bool, rd H10 ((⟨H5.size, 0, none⟩ : Addr).add 6) = some (.bool x25) ∧ ∃ x26 : Int, rd H10 ((⟨H5.size, 0, none⟩ : Addr).add 7) = some (.int .i64 x26) ∧ ∃ x27 : Int, rd H10 ((⟨H5.size, 0, none⟩ : Addr).add 8) = some (.int .i64 x27) ∧ ∃ x28 : Int, rd H10 ((⟨H5.size, 0, none⟩ : Addr).add 9) = some (.int .i64 x28) ∧ ∃ x29 : Sl, rd H10 ((⟨H5.size, 0, none⟩ : Addr).add 10) = some (.slice x29.p x29.n x29.c) ∧ (
  CallsH Try.prog n_hotplug_copyFunction #[.agg #[.int .i64 x19, .int .i64 x20, .int .i64 x21, .int .i64 x22, .bool x23, .bool x24, .bool x25, .int .i64 x26, .int .i64 x27, .int .i64 x28, .slice x29.p x29.n x29.c]] H10 (fun v2 H11 =>
  ∃ x30 : Int, ∃ x31 : Int, ∃ x32 : Int, ∃ x33 : Int, ∃ x34 : Bool, ∃ x35 : Bool, ∃ x36 : Bool, ∃ x37 : Int, ∃ x38 : Int, ∃ x39 : Int, ∃ x40 : Sl, v2 = .agg #[.int .i64 x30, .int .i64 x31, .int .i64 x32, .int .i64 x33, .bool x34, .bool x35, .bool x36, .int .i64 x37, .int .i64 x38, .int .i64 x39, .slice x40.p x40.n x40.c] ∧ (
  letH (H11.push (.cells #[.int .i64 (0 : Int), .int .i64 (0 : Int), .int .i64 (0 : Int), .int .i64 (0 : Int), .bool false, .bool false, .bool false, .int .i64 (0 : Int), .int .i64 (0 : Int), .int .i64 (0 : Int), .slice none 0 0] t_api_Function (0, 0))) (fun H12 : Heap =>
  okRow H12 (⟨H11.size, 0, none⟩ : Addr) 11 ∧ (
  letH (wrs H12 (⟨H11.size, 0, none⟩ : Addr) [.int .i64 x30, .int .i64 x31, .int .i64 x32, .int .i64 x33, .bool x34, .bool x35, .bool x36, .int .i64 x37, .int .i64 x38, .int .i64 x39, .slice x40.p x40.n x40.c]) (fun H13 : Heap =>
  ∃ J_1 : Heap → Prop, (
  ∃ x41 : Int, rd H13 (⟨H5.size, 0, none⟩ : Addr) = some (.int .i64 x41) ∧ (
  iteB (decide (x41 ≥ (0 : Int))) (
  ∃ x42 : Int, rd H13 (⟨H5.size, 0, none⟩ : Addr) = some (.int .i64 x42) ∧ (
  0 ≤ x42 ∧ x42 < ((l.n : Int).toNat : Int) ∧ (∃ x43 : Int, rd H13 ((⟨H2.size, 0, none⟩ : Addr).add (x42.toNat * 1)) = some (.int .i64 x43) ∧ (
  okRow H13 (⟨H11.size, 0, none⟩ : Addr) 1 ∧ (
  letH (wrs H13 (⟨H11.size, 0, none⟩ : Addr) [.int .i64 x43]) (fun H14 : Heap =>
  J_1 H14)))))) (
  J_1 H13))) ∧ (∀ H15 : Heap, J_1 H15 → F_hotplug_Remove_k1 I_ M_ restv x2 H5 H11 H15)))))))))))

def F_hotplug_Remove_r3 (R : Value → Heap → Prop) (l : Sl) (a : Sl) (H2 : Heap) (restv : Sl) (I_1 : Sl → Int → Heap → Prop) (M_1 : Sl → Int → Heap → Nat) (assigned : Sl) (x55 : Int) (H18 : Heap) : Prop :=
  iteB (decide (x55 < (a.n : Int))) (
  0 ≤ x55 ∧ x55 < (a.n : Int) ∧ (unSome a.p (fun a2 =>
  ∃ x56 : Int, rd H18 (a2.add (x55.toNat * 5)) = some (.int .i64 x56) ∧ ∃ x57 : Int, rd H18 ((a2.add (x55.toNat * 5)).add 1) = some (.int .i64 x57) ∧ ∃ x58 : Int, rd H18 ((a2.add (x55.toNat * 5)).add 2) = some (.int .i64 x58) ∧ ∃ x59 : Int, rd H18 ((a2.add (x55.toNat * 5)).add 3) = some (.int .i64 x59) ∧ ∃ x60 : Int, rd H18 ((a2.add (x55.toNat * 5)).add 4) = some (.int .u64 x60) ∧ (
  letH (H18.push (.cells #[.int .i64 (0 : Int), .int .i64 (0 : Int), .int .i64 (0 : Int), .int .i64 (0 : Int), .int .u64 (0 : Int)] t_api_Assignment (0, 0))) (fun H19 : Heap =>
  okRow H19 (⟨H18.size, 0, none⟩ : Addr) 5 ∧ (
  letH (wrs H19 (⟨H18.size, 0, none⟩ : Addr) [.int .i64 x56, .int .i64 x57, .int .i64 x58, .int .i64 x59, .int .u64 x60]) (fun H20 : Heap =>
  ∃ x61 : Int, rd H20 (⟨H18.size, 0, none⟩ : Addr) = some (.int .i64 x61) ∧ (
  iteB (decide (x61 < (0 : Int))) (
  I_1 assigned (IntKind.i64.wrap (x55 + (1 : Int))) H20 ∧ M_1 assigned (IntKind.i64.wrap (x55 + (1 : Int))) H20 < M_1 assigned x55 H18) (
  ∃ x62 : Int, rd H20 (⟨H18.size, 0, none⟩ : Addr) = some (.int .i64 x62) ∧ (
  iteB (decide (x62 ≥ (l.n : Int))) (
  I_1 assigned (IntKind.i64.wrap (x55 + (1 : Int))) H20 ∧ M_1 assigned (IntKind.i64.wrap (x55 + (1 : Int))) H20 < M_1 assigned x55 H18) (
  ∃ x63 : Int, rd H20 (⟨H18.size, 0, none⟩ : Addr) = some (.int .i64 x63) ∧ (
  0 ≤ x63 ∧ x63 < ((l.n : Int).toNat : Int) ∧ (∃ x64 : Int, rd H20 ((⟨H2.size, 0, none⟩ : Addr).add (x63.toNat * 1)) = some (.int .i64 x64) ∧ (
  iteB (decide (x64 < (0 : Int))) (
  I_1 assigned (IntKind.i64.wrap (x55 + (1 : Int))) H20 ∧ M_1 assigned (IntKind.i64.wrap (x55 + (1 : Int))) H20 < M_1 assigned x55 H18) (
  ∃ x65 : Int, rd H20 (⟨H18.size, 0, none⟩ : Addr) = some (.int .i64 x65) ∧ (
  0 ≤ x65 ∧ x65 < ((l.n : Int).toNat : Int) ∧ (∃ x66 : Int, rd H20 ((⟨H2.size, 0, none⟩ : Addr).add (x65.toNat * 1)) = some (.int .i64 x66) ∧ (
  okRow H20 (⟨H18.size, 0, none⟩ : Addr) 1 ∧ (
  letH (wrs H20 (⟨H18.size, 0, none⟩ : Addr) [.int .i64 x66]) (fun H21 : Heap =>
  ∃ x67 : Int, rd H21 (⟨H18.size, 0, none⟩ : Addr) = some (.int .i64 x67) ∧ ∃ x68 : Int, rd H21 ((⟨H18.size, 0, none⟩ : Addr).add 1) = some (.int .i64 x68) ∧ ∃ x69 : Int, rd H21 ((⟨H18.size, 0, none⟩ : Addr).add 2) = some (.int .i64 x69) ∧ ∃ x70 : Int, rd H21 ((⟨H18.size, 0, none⟩ : Addr).add 3) = some (.int .i64 x70) ∧ ∃ x71 : Int, rd H21 ((⟨H18.size, 0, none⟩ : Addr).add 4) = some (.int .u64 x71) ∧ (
  letH (H21.push (.cells #[.int .i64 x67, .int .i64 x68, .int .i64 x69, .int .i64 x70, .int .u64 x71] t_api_Assignment (0, 0))) (fun H22 : Heap =>
  runH Try.prog (Builtin.append_ #[t_sl_api_Assignment, t_sl_api_Assignment] t_sl_api_Assignment #[.slice assigned.p assigned.n assigned.c, .slice (some (⟨H21.size, 0, none⟩ : Addr)) 1 1]) H22 (fun v4 H23 =>
  ∃ assigned1 : Sl, v4 = .slice assigned1.p assigned1.n assigned1.c ∧ (
  I_1 assigned1 (IntKind.i64.wrap (x55 + (1 : Int))) H23 ∧ M_1 assigned1 (IntKind.i64.wrap (x55 + (1 : Int))) H23 < M_1 assigned x55 H18)))))))))))))))))))))))) (
  R (.tuple #[.slice restv.p restv.n restv.c, .slice assigned.p assigned.n assigned.c, .slice (some (⟨H2.size, 0, none⟩ : Addr)) ((l.n : Int).toNat) ((l.n : Int).toNat), .int .i64 (0 : Int)]) H18)

def F_hotplug_Remove_r4 (R : Value → Heap → Prop) (l : Sl) (a : Sl) (port : Int) (H2 : Heap) (I_ : Sl → Int → Heap → Prop) (M_ : Sl → Int → Heap → Nat) (restv : Sl) (x2 : Int) (H5 : Heap) : Prop :=
  iteB (decide (x2 < (l.n : Int))) (
  0 ≤ x2 ∧ x2 < (l.n : Int) ∧ (unSome l.p (fun a1 =>
  ∃ x3 : Int, rd H5 (a1.add (x2.toNat * 11)) = some (.int .i64 x3) ∧ ∃ x4 : Int, rd H5 ((a1.add (x2.toNat * 11)).add 1) = some (.int .i64 x4) ∧ ∃ x5 : Int, rd H5 ((a1.add (x2.toNat * 11)).add 2) = some (.int .i64 x5) ∧ ∃ x6 : Int, rd H5 ((a1.add (x2.toNat * 11)).add 3) = some (.int .i64 x6) ∧ ∃ x7 : Bool, rd H5 ((a1.add (x2.toNat * 11)).add 4) = some (.bool x7) ∧ ∃ x8 : Bool, rd H5 ((a1.add (x2.toNat * 11)).add 5) = some (.bool x8) ∧ ∃ x9 : Bool, rd H5 ((a1.add (x2.toNat * 11)).add 6) = some (.bool x9) ∧ ∃ x10 : Int, rd H5 ((a1.add (x2.toNat * 11)).add 7) = some (.int .i64 x10) ∧ ∃ x11 : Int, rd H5 ((a1.add (x2.toNat * 11)).add 8) = some (.int .i64 x11) ∧ ∃ x12 : Int, rd H5 ((a1.add (x2.toNat * 11)).add 9) = some (.int .i64 x12) ∧ ∃ x13 : Sl, rd H5 ((a1.add (x2.toNat * 11)).add 10) = some (.slice x13.p x13.n x13.c) ∧ (
  letH (H5.push (.cells #[.int .i64 (0 : Int), .int .i64 (0 : Int), .int .i64 (0 : Int), .int .i64 (0 : Int), .bool false, .bool false, .bool false, .int .i64 (0 : Int), .int .i64 (0 : Int), .int .i64 (0 : Int), .slice none 0 0] t_api_Function (0, 0))) (fun H6 : Heap =>
  okRow H6 (⟨H5.size, 0, none⟩ : Addr) 11 ∧ (
  letH (wrs H6 (⟨H5.size, 0, none⟩ : Addr) [.int .i64 x3, .int .i64 x4, .int .i64 x5, .int .i64 x6, .bool x7, .bool x8, .bool x9, .int .i64 x10, .int .i64 x11, .int .i64 x12, .slice x13.p x13.n x13.c]) (fun H7 : Heap =>
  ∃ J_ : Bool → Heap → Prop, (
  ∃ x14 : Int, rd H7 (⟨H5.size, 0, none⟩ : Addr) = some (.int .i64 x14) ∧ (
  iteB (x14 == port) (
  J_ true H7) (
  ∃ x15 : Int, rd H7 (⟨H5.size, 0, none⟩ : Addr) = some (.int .i64 x15) ∧ (
  iteB (decide (x15 ≥ (0 : Int))) (
  ∃ x16 : Int, rd H7 (⟨H5.size, 0, none⟩ : Addr) = some (.int .i64 x16) ∧ (
  0 ≤ x16 ∧ x16 < ((l.n : Int).toNat : Int) ∧ (∃ x17 : Int, rd H7 ((⟨H2.size, 0, none⟩ : Addr).add (x16.toNat * 1)) = some (.int .i64 x17) ∧ (
  J_ (decide (x17 < (0 : Int))) H7)))) (
  J_ false H7))))) ∧ (∀ x18 : Bool, ∀ H8 : Heap, J_ x18 H8 → F_hotplug_Remove_k2 l H2 I_ M_ restv x2 H5 x18 H8)))))))) (
  ∃ I_1 : Sl → Int → Heap → Prop, ∃ M_1 : Sl → Int → Heap → Nat, I_1 (Sl.mk none 0 0) (0 : Int) H5 ∧ (∀ assigned : Sl, ∀ x55 : Int, ∀ H18 : Heap, I_1 assigned x55 H18 → F_hotplug_Remove_r3 R l a H2 restv I_1 M_1 assigned x55 H18))

def F_hotplug_Remove (R : Value → Heap → Prop) (l : Sl) (a : Sl) (port : Int) (H : Heap) : Prop :=
  CallsH Try.prog n_enumerate_Valid #[.slice l.p l.n l.c] H (fun v H1 =>
  ∃ x : Bool, v = .bool x ∧ (
  iteB (!x) (
  R (.tuple #[.slice none 0 0, .slice none 0 0, .slice none 0 0, .int .i64 (1 : Int)]) H1) (
  CallsH Try.prog n_hotplug_isPort #[.slice l.p l.n l.c, .int .i64 port] H1 (fun v1 H2 =>
  ∃ x1 : Bool, v1 = .bool x1 ∧ (
  iteB (!x1) (
  R (.tuple #[.slice none 0 0, .slice none 0 0, .slice none 0 0, .int .i64 (6 : Int)]) H2) (
  0 ≤ (l.n : Int) ∧ (l.n : Int) ≤ (l.n : Int) ∧ (l.n : Int) * ((8 : Nat) : Int) ≤ 281474976710656 ∧ (
  letH (H2.push (.cells (zeroRow (.int .i64 (0 : Int)) (l.n : Int).toNat) t_int (0, 0))) (fun H3 : Heap =>
  0 ≤ (0 : Int) ∧ (0 : Int) ≤ (l.n : Int) ∧ (l.n : Int) * ((88 : Nat) : Int) ≤ 281474976710656 ∧ (
  letH (H3.push (.cells (zeroRow (.agg #[.int .i64 (0 : Int), .int .i64 (0 : Int), .int .i64 (0 : Int), .int .i64 (0 : Int), .bool false, .bool false, .bool false, .int .i64 (0 : Int), .int .i64 (0 : Int), .int .i64 (0 : Int), .slice none 0 0]) (l.n : Int).toNat) t_api_Function (0, 0))) (fun H4 : Heap =>
  ∃ I_ : Sl → Int → Heap → Prop, ∃ M_ : Sl → Int → Heap → Nat, I_ (Sl.mk (some (⟨H3.size, 0, none⟩ : Addr)) ((0 : Int).toNat) ((l.n : Int).toNat)) (0 : Int) H4 ∧ (∀ restv : Sl, ∀ x2 : Int, ∀ H5 : Heap, I_ restv x2 H5 → F_hotplug_Remove_r4 R l a port H2 I_ M_ restv x2 H5)))))))))))

theorem F_hotplug_Remove_eq (R : Value → Heap → Prop) (l : Sl) (a : Sl) (port : Int) (H : Heap) : wpF Try.prog Try.f10 [(11, .slice none 0 0), (15, .slice none 0 0), (33, .int .i64 0), (54, .bool false), (81, .int .i64 0)] [(11, [54], [0, 1, 2, 10, 11, 12, 13, 31, 32, 33]), (16, [], [0, 1, 2, 10, 11, 14, 31, 32, 33])] [(8, [11, 33], [0, 1, 2, 10, 31, 32]), (20, [15, 81], [0, 10, 11, 79, 80])] [20] [.slice l.p l.n l.c, .slice a.p a.n a.c, .int .i64 port] H R = F_hotplug_Remove R l a port H := by kernel_rfl

theorem F_hotplug_Remove_ok {R : Value → Heap → Prop} (l : Sl) (a : Sl) (port : Int) {H : Heap} (h : F_hotplug_Remove R l a port H) : CallsH Try.prog n_hotplug_Remove #[.slice l.p l.n l.c, .slice a.p a.n a.c, .int .i64 port] H R :=
  wpF_ok Try.func10 (F_hotplug_Remove_eq R l a port H) h

/-! ### 11: platformfw/platformfwref21.Remove -/

def F_ref21_Remove_k1 (l : Sl) (H2 : Heap) (I_ : Sl → Int → Heap → Prop) (M_ : Sl → Int → Heap → Nat) (out : Sl) (i : Int) (H4 : Heap) (H6 : Heap) (H12 : Heap) : Prop :=
  0 ≤ i ∧ i < ((l.n : Int).toNat : Int) ∧ (okRow H12 ((⟨H2.size, 0, none⟩ : Addr).add (i.toNat * 1)) 1 ∧ (
  letH (wrs H12 ((⟨H2.size, 0, none⟩ : Addr).add (i.toNat * 1)) [.int .i64 (out.n : Int)]) (fun H13 : Heap =>
  ∃ x19 : Int, rd H13 (⟨H6.size, 0, none⟩ : Addr) = some (.int .i64 x19) ∧ ∃ x20 : Int, rd H13 ((⟨H6.size, 0, none⟩ : Addr).add 1) = some (.int .i64 x20) ∧ ∃ x21 : Int, rd H13 ((⟨H6.size, 0, none⟩ : Addr).add 2) = some (.int .i64 x21) ∧ ∃ x22 : Int, rd H13 ((⟨H6.size, 0, none⟩ : Addr).add 3) = some (.int .i64 x22) ∧ ∃ x23 : Bool, rd H13 ((⟨H6.size, 0, none⟩ : Addr).add 4) = some (.bool x23) ∧ ∃ x24 : Bool, rd H13 ((⟨H6.size, 0, none⟩ : Addr).add 5) = some (.bool x24) ∧ ∃ x25 : Bool, rd H13 ((⟨H6.size, 0, none⟩ : Addr).add 6) = some (.bool x25) ∧ ∃ x26 : Int, rd H13 ((⟨H6.size, 0, none⟩ : Addr).add 7) = some (.int .i64 x26) ∧ ∃ x27 : Int, rd H13 ((⟨H6.size, 0, none⟩ : Addr).add 8) = some (.int .i64 x27) ∧ ∃ x28 : Int, rd H13 ((⟨H6.size, 0, none⟩ : Addr).add 9) = some (.int .i64 x28) ∧ ∃ x29 : Sl, rd H13 ((⟨H6.size, 0, none⟩ : Addr).add 10) = some (.slice x29.p x29.n x29.c) ∧ (
  letH (H13.push (.cells #[.int .i64 x19, .int .i64 x20, .int .i64 x21, .int .i64 x22, .bool x23, .bool x24, .bool x25, .int .i64 x26, .int .i64 x27, .int .i64 x28, .slice x29.p x29.n x29.c] t_api_Function (0, 0))) (fun H14 : Heap =>
  runH Try.prog (Builtin.append_ #[t_sl_api_Function, t_sl_api_Function] t_sl_api_Function #[.slice out.p out.n out.c, .slice (some (⟨H13.size, 0, none⟩ : Addr)) 1 1]) H14 (fun v4 H15 =>
  ∃ out1 : Sl, v4 = .slice out1.p out1.n out1.c ∧ (
  letV (IntKind.i64.wrap (i + (1 : Int))) (fun i1 : Int =>
  I_ out1 i1 H15 ∧ M_ out1 i1 H15 < M_ out i H4))))))))

def F_ref21_Remove_k2 (l : Sl) (a : Sl) (H2 : Heap) (I_1 : Sl → Int → Heap → Prop) (M_1 : Sl → Int → Heap → Nat) (left : Sl) (i3 : Int) (H16 : Heap) (f : Int) (x31 : Bool) (H17 : Heap) : Prop :=
  iteB x31 (
  0 ≤ i3 ∧ i3 < (a.n : Int) ∧ (unSome a.p (fun a3 =>
  ∃ x32 : Int, rd H17 (a3.add (i3.toNat * 5)) = some (.int .i64 x32) ∧ ∃ x33 : Int, rd H17 ((a3.add (i3.toNat * 5)).add 1) = some (.int .i64 x33) ∧ ∃ x34 : Int, rd H17 ((a3.add (i3.toNat * 5)).add 2) = some (.int .i64 x34) ∧ ∃ x35 : Int, rd H17 ((a3.add (i3.toNat * 5)).add 3) = some (.int .i64 x35) ∧ ∃ x36 : Int, rd H17 ((a3.add (i3.toNat * 5)).add 4) = some (.int .u64 x36) ∧ (
  letH (H17.push (.cells #[.int .i64 (0 : Int), .int .i64 (0 : Int), .int .i64 (0 : Int), .int .i64 (0 : Int), .int .u64 (0 : Int)] t_api_Assignment (0, 0))) (fun H18 : Heap =>
  okRow H18 (⟨H17.size, 0, none⟩ : Addr) 5 ∧ (
  letH (wrs H18 (⟨H17.size, 0, none⟩ : Addr) [.int .i64 x32, .int .i64 x33, .int .i64 x34, .int .i64 x35, .int .u64 x36]) (fun H19 : Heap =>
  0 ≤ f ∧ f < ((l.n : Int).toNat : Int) ∧ (∃ x37 : Int, rd H19 ((⟨H2.size, 0, none⟩ : Addr).add (f.toNat * 1)) = some (.int .i64 x37) ∧ (
  okRow H19 (⟨H17.size, 0, none⟩ : Addr) 1 ∧ (
  letH (wrs H19 (⟨H17.size, 0, none⟩ : Addr) [.int .i64 x37]) (fun H20 : Heap =>
  ∃ x38 : Int, rd H20 (⟨H17.size, 0, none⟩ : Addr) = some (.int .i64 x38) ∧ ∃ x39 : Int, rd H20 ((⟨H17.size, 0, none⟩ : Addr).add 1) = some (.int .i64 x39) ∧ ∃ x40 : Int, rd H20 ((⟨H17.size, 0, none⟩ : Addr).add 2) = some (.int .i64 x40) ∧ ∃ x41 : Int, rd H20 ((⟨H17.size, 0, none⟩ : Addr).add 3) = some (.int .i64 x41) ∧ ∃ x42 : Int, rd H20 ((⟨H17.size, 0, none⟩ : Addr).add 4) = some (.int .u64 x42) ∧ (
  letH (H20.push (.cells #[.int .i64 x38, .int .i64 x39, .int .i64 x40, .int .i64 x41, .int .u64 x42] t_api_Assignment (0, 0))) (fun H21 : Heap =>
  runH Try.prog (Builtin.append_ #[t_sl_api_Assignment, t_sl_api_Assignment] t_sl_api_Assignment #[.slice left.p left.n left.c, .slice (some (⟨H20.size, 0, none⟩ : Addr)) 1 1]) H21 (fun v5 H22 =>
  ∃ left1 : Sl, v5 = .slice left1.p left1.n left1.c ∧ (
  letV (IntKind.i64.wrap (i3 + (1 : Int))) (fun i4 : Int =>
  I_1 left1 i4 H22 ∧ M_1 left1 i4 H22 < M_1 left i3 H16)))))))))))))))) (
  letV (IntKind.i64.wrap (i3 + (1 : Int))) (fun i5 : Int =>
  I_1 left i5 H17 ∧ M_1 left i5 H17 < M_1 left i3 H16))

def F_ref21_Remove_r3 (R : Value → Heap → Prop) (l : Sl) (a : Sl) (H2 : Heap) (out : Sl) (I_1 : Sl → Int → Heap → Prop) (M_1 : Sl → Int → Heap → Nat) (left : Sl) (i3 : Int) (H16 : Heap) : Prop :=
  iteB (decide (i3 < (a.n : Int))) (
  0 ≤ i3 ∧ i3 < (a.n : Int) ∧ (unSome a.p (fun a2 =>
  ∃ f : Int, rd H16 (a2.add (i3.toNat * 5)) = some (.int .i64 f) ∧ (
  ∃ J_1 : Bool → Heap → Prop, (
  iteB (decide (f ≥ (0 : Int))) (
  iteB (decide (f < (l.n : Int))) (
  0 ≤ f ∧ f < ((l.n : Int).toNat : Int) ∧ (∃ x30 : Int, rd H16 ((⟨H2.size, 0, none⟩ : Addr).add (f.toNat * 1)) = some (.int .i64 x30) ∧ (
  J_1 (decide (x30 ≥ (0 : Int))) H16))) (
  J_1 false H16)) (
  J_1 false H16)) ∧ (∀ x31 : Bool, ∀ H17 : Heap, J_1 x31 H17 → F_ref21_Remove_k2 l a H2 I_1 M_1 left i3 H16 f x31 H17))))) (
  R (.tuple #[.slice out.p out.n out.c, .slice left.p left.n left.c, .slice (some (⟨H2.size, 0, none⟩ : Addr)) ((l.n : Int).toNat) ((l.n : Int).toNat), .int .i64 (0 : Int)]) H16)

def F_ref21_Remove_r4 (R : Value → Heap → Prop) (l : Sl) (a : Sl) (p : Int) (H2 : Heap) (I_ : Sl → Int → Heap → Prop) (M_ : Sl → Int → Heap → Nat) (out : Sl) (i : Int) (H4 : Heap) : Prop :=
  iteB (decide (i < (l.n : Int))) (
  0 ≤ i ∧ i < ((l.n : Int).toNat : Int) ∧ (okRow H4 ((⟨H2.size, 0, none⟩ : Addr).add (i.toNat * 1)) 1 ∧ (
  letH (wrs H4 ((⟨H2.size, 0, none⟩ : Addr).add (i.toNat * 1)) [.int .i64 (-1 : Int)]) (fun H5 : Heap =>
  CallsH Try.prog n_ref21_under #[.slice l.p l.n l.c, .int .i64 i, .int .i64 p] H5 (fun v2 H6 =>
  ∃ x2 : Bool, v2 = .bool x2 ∧ (
  iteB (!x2) (
  0 ≤ i ∧ i < (l.n : Int) ∧ (unSome l.p (fun a1 =>
  ∃ x3 : Int, rd H6 (a1.add (i.toNat * 11)) = some (.int .i64 x3) ∧ ∃ x4 : Int, rd H6 ((a1.add (i.toNat * 11)).add 1) = some (.int .i64 x4) ∧ ∃ x5 : Int, rd H6 ((a1.add (i.toNat * 11)).add 2) = some (.int .i64 x5) ∧ ∃ x6 : Int, rd H6 ((a1.add (i.toNat * 11)).add 3) = some (.int .i64 x6) ∧ ∃ x7 : Bool, rd H6 ((a1.add (i.toNat * 11)).add 4) = some (.bool x7) ∧ ∃ x8 : Bool, rd H6 ((a1.add (i.toNat * 11)).add 5) = some (.bool x8) ∧ ∃ x9 : Bool, rd H6 ((a1.add (i.toNat * 11)).add 6) = some (.bool x9) ∧ ∃ x10 : Int, rd H6 ((a1.add (i.toNat * 11)).add 7) = some (.int .i64 x10) ∧ ∃ x11 : Int, rd H6 ((a1.add (i.toNat * 11)).add 8) = some (.int .i64 x11) ∧ ∃ x12 : Int, rd H6 ((a1.add (i.toNat * 11)).add 9) = some (.int .i64 x12) ∧ ∃ x13 : Sl, rd H6 ((a1.add (i.toNat * 11)).add 10) = some (.slice x13.p x13.n x13.c) ∧ (
  letH (H6.push (.cells #[.int .i64 (0 : Int), .int .i64 (0 : Int), .int .i64 (0 : Int), .int .i64 (0 : Int), .bool false, .bool false, .bool false, .int .i64 (0 : Int), .int .i64 (0 : Int), .int .i64 (0 : Int), .slice none 0 0] t_api_Function (0, 0))) (fun H7 : Heap =>
  okRow H7 (⟨H6.size, 0, none⟩ : Addr) 11 ∧ (
  letH (wrs H7 (⟨H6.size, 0, none⟩ : Addr) [.int .i64 x3, .int .i64 x4, .int .i64 x5, .int .i64 x6, .bool x7, .bool x8, .bool x9, .int .i64 x10, .int .i64 x11, .int .i64 x12, .slice x13.p x13.n x13.c]) (fun H8 : Heap =>
  ∃ x14 : Sl, rd H8 ((⟨H6.size, 0, none⟩ : Addr).add 10) = some (.slice x14.p x14.n x14.c) ∧ (
  runH Try.prog (Builtin.append_ #[t_sl_api_Bar, t_sl_api_Bar] t_sl_api_Bar #[.slice none 0 0, .slice x14.p x14.n x14.c]) H8 (fun v3 H9 =>
  ∃ x15 : Sl, v3 = .slice x15.p x15.n x15.c ∧ (
  okRow H9 ((⟨H6.size, 0, none⟩ : Addr).add 10) 1 ∧ (
  letH (wrs H9 ((⟨H6.size, 0, none⟩ : Addr).add 10) [.slice x15.p x15.n x15.c]) (fun H10 : Heap =>
  ∃ J_ : Heap → Prop, (
  ∃ x16 : Int, rd H10 (⟨H6.size, 0, none⟩ : Addr) = some (.int .i64 x16) ∧ (
  iteB (decide (x16 ≥ (0 : Int))) (
  ∃ x17 : Int, rd H10 (⟨H6.size, 0, none⟩ : Addr) = some (.int .i64 x17) ∧ (
  0 ≤ x17 ∧ x17 < ((l.n : Int).toNat : Int) ∧ (∃ x18 : Int, rd H10 ((⟨H2.size, 0, none⟩ : Addr).add (x17.toNat * 1)) = some (.int .i64 x18) ∧ (
  okRow H10 (⟨H6.size, 0, none⟩ : Addr) 1 ∧ (
  letH (wrs H10 (⟨H6.size, 0, none⟩ : Addr) [.int .i64 x18]) (fun H11 : Heap =>
  J_ H11)))))) (
  J_ H10))) ∧ (∀ H12 : Heap, J_ H12 → F_ref21_Remove_k1 l H2 I_ M_ out i H4 H6 H12))))))))))))) (
  letV (IntKind.i64.wrap (i + (1 : Int))) (fun i2 : Int =>
  I_ out i2 H6 ∧ M_ out i2 H6 < M_ out i H4)))))))) (
  ∃ I_1 : Sl → Int → Heap → Prop, ∃ M_1 : Sl → Int → Heap → Nat, I_1 (Sl.mk none 0 0) (0 : Int) H4 ∧ (∀ left : Sl, ∀ i3 : Int, ∀ H16 : Heap, I_1 left i3 H16 → F_ref21_Remove_r3 R l a H2 out I_1 M_1 left i3 H16))

def F_ref21_Remove (R : Value → Heap → Prop) (l : Sl) (a : Sl) (p : Int) (H : Heap) : Prop :=
  CallsH Try.prog n_ref18_Valid #[.slice l.p l.n l.c] H (fun v H1 =>
  ∃ x : Bool, v = .bool x ∧ (
  iteB (!x) (
  R (.tuple #[.slice none 0 0, .slice none 0 0, .slice none 0 0, .int .i64 (1 : Int)]) H1) (
  CallsH Try.prog n_ref21_port #[.slice l.p l.n l.c, .int .i64 p] H1 (fun v1 H2 =>
  ∃ x1 : Bool, v1 = .bool x1 ∧ (
  iteB (!x1) (
  R (.tuple #[.slice none 0 0, .slice none 0 0, .slice none 0 0, .int .i64 (6 : Int)]) H2) (
  0 ≤ (l.n : Int) ∧ (l.n : Int) ≤ (l.n : Int) ∧ (l.n : Int) * ((8 : Nat) : Int) ≤ 281474976710656 ∧ (
  letH (H2.push (.cells (zeroRow (.int .i64 (0 : Int)) (l.n : Int).toNat) t_int (0, 0))) (fun H3 : Heap =>
  ∃ I_ : Sl → Int → Heap → Prop, ∃ M_ : Sl → Int → Heap → Nat, I_ (Sl.mk none 0 0) (0 : Int) H3 ∧ (∀ out : Sl, ∀ i : Int, ∀ H4 : Heap, I_ out i H4 → F_ref21_Remove_r4 R l a p H2 I_ M_ out i H4)))))))))

theorem F_ref21_Remove_eq (R : Value → Heap → Prop) (l : Sl) (a : Sl) (p : Int) (H : Heap) : wpF Try.prog Try.f11 [(10, .slice none 0 0), (11, .slice none 0 0), (13, .int .i64 0), (15, .int .i64 0), (94, .bool false)] [(17, [], [0, 1, 2, 10, 11, 12, 13, 14]), (24, [94], [0, 1, 10, 11, 12, 15, 16])] [(9, [10, 13], [0, 1, 2, 11, 12]), (20, [11, 15], [0, 1, 10, 12])] [20] [.slice l.p l.n l.c, .slice a.p a.n a.c, .int .i64 p] H R = F_ref21_Remove R l a p H := by kernel_rfl

theorem F_ref21_Remove_ok {R : Value → Heap → Prop} (l : Sl) (a : Sl) (p : Int) {H : Heap} (h : F_ref21_Remove R l a p H) : CallsH Try.prog n_ref21_Remove #[.slice l.p l.n l.c, .slice a.p a.n a.c, .int .i64 p] H R :=
  wpF_ok Try.func11 (F_ref21_Remove_eq R l a p H) h

/-! ### 12: platformfw/platformfwlaw23.awake -/

def F_law23_awake (R : Value → Heap → Prop)  (H : Heap) : Prop :=
  CallsH Try.prog n_hotplug_NewSlot #[.bool true, .int .u64 (5 : Int)] H (fun v H1 =>
  ∃ x : Option Addr, ∃ x1 : Int, v = .tuple #[.pointer x, .int .i64 x1] ∧ (
  iteB (x1 != (0 : Int)) (
  R (.bool false) H1) (
  iteB x.isNone (
  R (.bool false) H1) (
  CallsH Try.prog n_hotplug_Slot_Handle #[.pointer x, .int .i64 (3 : Int), .int .u64 (10 : Int)] H1 (fun v1 H2 =>
  ∃ x2 : Sl, ∃ x3 : Int, v1 = .tuple #[.slice x2.p x2.n x2.c, .int .i64 x3] ∧ (
  CallsH Try.prog n_hotplug_Slot_Advance #[.pointer x, .int .u64 (15 : Int)] H2 (fun v2 H3 =>
  ∃ b : Sl, v2 = .slice b.p b.n b.c ∧ (
  CallsH Try.prog n_hotplug_Slot_Handle #[.pointer x, .int .i64 (2 : Int), .int .u64 (20 : Int)] H3 (fun v3 H4 =>
  ∃ x4 : Sl, ∃ x5 : Int, v3 = .tuple #[.slice x4.p x4.n x4.c, .int .i64 x5] ∧ (
  iteB (x3 == (0 : Int)) (
  iteB (x5 == (0 : Int)) (
  letH (H4.push (.cells #[.int .i64 (1 : Int)] t_int (0, 0))) (fun H5 : Heap =>
  CallsH Try.prog n_help_Equal_int #[.slice x2.p x2.n x2.c, .slice (some (⟨H4.size, 0, none⟩ : Addr)) 1 1] H5 (fun v4 H6 =>
  ∃ x6 : Bool, v4 = .bool x6 ∧ (
  iteB x6 (
  letH (H6.push (.cells #[.int .i64 (3 : Int)] t_int (0, 0))) (fun H7 : Heap =>
  CallsH Try.prog n_help_Equal_int #[.slice b.p b.n b.c, .slice (some (⟨H6.size, 0, none⟩ : Addr)) 1 1] H7 (fun v5 H8 =>
  ∃ x7 : Bool, v5 = .bool x7 ∧ (
  iteB x7 (
  letH (H8.push (.cells #[.int .i64 (5 : Int), .int .i64 (2 : Int)] t_int (0, 0))) (fun H9 : Heap =>
  CallsH Try.prog n_help_Equal_int #[.slice x4.p x4.n x4.c, .slice (some (⟨H8.size, 0, none⟩ : Addr)) 2 2] H9 (fun v6 H10 =>
  ∃ x8 : Bool, v6 = .bool x8 ∧ (
  iteB x8 (
  CallsH Try.prog n_hotplug_Slot_State #[.pointer x] H10 (fun v7 H11 =>
  ∃ x9 : Int, v7 = .int .i64 x9 ∧ (
  R (.bool (x9 == (1 : Int))) H11))) (
  R (.bool false) H10))))) (
  R (.bool false) H8))))) (
  R (.bool false) H6))))) (
  R (.bool false) H4)) (
  R (.bool false) H4)))))))))))

theorem F_law23_awake_eq (R : Value → Heap → Prop)  (H : Heap) : wpF Try.prog Try.f12 [] [] [] [20] [] H R = F_law23_awake R  H := by kernel_rfl

theorem F_law23_awake_ok {R : Value → Heap → Prop}  {H : Heap} (h : F_law23_awake R  H) : CallsH Try.prog n_law23_awake #[] H R :=
  wpF_ok Try.func12 (F_law23_awake_eq R  H) h

/-! ### 13: platformfw/platformfwhelp.EqualFunc[platformfw/api.Function] -/

def F_help_EqualFunc_api_Function_r1 (R : Value → Heap → Prop) (a : Sl) (b : Sl) (I_ : Int → Heap → Prop) (M_ : Int → Heap → Nat) (i : Int) (H1 : Heap) : Prop :=
  iteB (decide (i < (a.n : Int))) (
  0 ≤ i ∧ i < (a.n : Int) ∧ (unSome a.p (fun a1 =>
  ∃ x : Int, rd H1 (a1.add (i.toNat * 11)) = some (.int .i64 x) ∧ ∃ x1 : Int, rd H1 ((a1.add (i.toNat * 11)).add 1) = some (.int .i64 x1) ∧ ∃ x2 : Int, rd H1 ((a1.add (i.toNat * 11)).add 2) = some (.int .i64 x2) ∧ ∃ x3 : Int, rd H1 ((a1.add (i.toNat * 11)).add 3) = some (.int .i64 x3) ∧ ∃ x4 : Bool, rd H1 ((a1.add (i.toNat * 11)).add 4) = some (.bool x4) ∧ ∃ x5 : Bool, rd H1 ((a1.add (i.toNat * 11)).add 5) = some (.bool x5) ∧ ∃ x6 : Bool, rd H1 ((a1.add (i.toNat * 11)).add 6) = some (.bool x6) ∧ ∃ x7 : Int, rd H1 ((a1.add (i.toNat * 11)).add 7) = some (.int .i64 x7) ∧ ∃ x8 : Int, rd H1 ((a1.add (i.toNat * 11)).add 8) = some (.int .i64 x8) ∧ ∃ x9 : Int, rd H1 ((a1.add (i.toNat * 11)).add 9) = some (.int .i64 x9) ∧ ∃ x10 : Sl, rd H1 ((a1.add (i.toNat * 11)).add 10) = some (.slice x10.p x10.n x10.c) ∧ (
  0 ≤ i ∧ i < (b.n : Int) ∧ (unSome b.p (fun a2 =>
  ∃ x11 : Int, rd H1 (a2.add (i.toNat * 11)) = some (.int .i64 x11) ∧ ∃ x12 : Int, rd H1 ((a2.add (i.toNat * 11)).add 1) = some (.int .i64 x12) ∧ ∃ x13 : Int, rd H1 ((a2.add (i.toNat * 11)).add 2) = some (.int .i64 x13) ∧ ∃ x14 : Int, rd H1 ((a2.add (i.toNat * 11)).add 3) = some (.int .i64 x14) ∧ ∃ x15 : Bool, rd H1 ((a2.add (i.toNat * 11)).add 4) = some (.bool x15) ∧ ∃ x16 : Bool, rd H1 ((a2.add (i.toNat * 11)).add 5) = some (.bool x16) ∧ ∃ x17 : Bool, rd H1 ((a2.add (i.toNat * 11)).add 6) = some (.bool x17) ∧ ∃ x18 : Int, rd H1 ((a2.add (i.toNat * 11)).add 7) = some (.int .i64 x18) ∧ ∃ x19 : Int, rd H1 ((a2.add (i.toNat * 11)).add 8) = some (.int .i64 x19) ∧ ∃ x20 : Int, rd H1 ((a2.add (i.toNat * 11)).add 9) = some (.int .i64 x20) ∧ ∃ x21 : Sl, rd H1 ((a2.add (i.toNat * 11)).add 10) = some (.slice x21.p x21.n x21.c) ∧ (
  CallsH Try.prog n_law23_same #[.agg #[.int .i64 x, .int .i64 x1, .int .i64 x2, .int .i64 x3, .bool x4, .bool x5, .bool x6, .int .i64 x7, .int .i64 x8, .int .i64 x9, .slice x10.p x10.n x10.c], .agg #[.int .i64 x11, .int .i64 x12, .int .i64 x13, .int .i64 x14, .bool x15, .bool x16, .bool x17, .int .i64 x18, .int .i64 x19, .int .i64 x20, .slice x21.p x21.n x21.c]] H1 (fun v H2 =>
  ∃ x22 : Bool, v = .bool x22 ∧ (
  iteB (!x22) (
  R (.bool false) H2) (
  letV (IntKind.i64.wrap (i + (1 : Int))) (fun i1 : Int =>
  I_ i1 H2 ∧ M_ i1 H2 < M_ i H1))))))))))) (
  R (.bool true) H1)

def F_help_EqualFunc_api_Function (R : Value → Heap → Prop) (a : Sl) (b : Sl) (H : Heap) : Prop :=
  iteB ((a.n : Int) != (b.n : Int)) (
  R (.bool false) H) (
  ∃ I_ : Int → Heap → Prop, ∃ M_ : Int → Heap → Nat, I_ (0 : Int) H ∧ (∀ i : Int, ∀ H1 : Heap, I_ i H1 → F_help_EqualFunc_api_Function_r1 R a b I_ M_ i H1))

theorem F_help_EqualFunc_api_Function_eq (R : Value → Heap → Prop) (a : Sl) (b : Sl) (H : Heap) : wpF Try.prog Try.f13 [(7, .int .i64 0)] [] [(4, [7], [0, 1, 2])] [20] [.slice a.p a.n a.c, .slice b.p b.n b.c, .func (.func 14) #[] #[]] H R = F_help_EqualFunc_api_Function R a b H := by kernel_rfl

theorem F_help_EqualFunc_api_Function_ok {R : Value → Heap → Prop} (a : Sl) (b : Sl) {H : Heap} (h : F_help_EqualFunc_api_Function R a b H) : CallsH Try.prog n_help_EqualFunc_api_Function #[.slice a.p a.n a.c, .slice b.p b.n b.c, .func (.func 14) #[] #[]] H R :=
  wpF_ok Try.func13 (F_help_EqualFunc_api_Function_eq R a b H) h

/-! ### 14: platformfw/platformfwlaw23.same -/

def F_law23_same (R : Value → Heap → Prop) (a_0 : Int) (a_1 : Int) (a_2 : Int) (a_3 : Int) (a_4 : Bool) (a_5 : Bool) (a_6 : Bool) (a_7 : Int) (a_8 : Int) (a_9 : Int) (a_10 : Sl) (b_0 : Int) (b_1 : Int) (b_2 : Int) (b_3 : Int) (b_4 : Bool) (b_5 : Bool) (b_6 : Bool) (b_7 : Int) (b_8 : Int) (b_9 : Int) (b_10 : Sl) (H : Heap) : Prop :=
  letH (H.push (.cells #[.int .i64 a_0, .int .i64 a_1, .int .i64 a_2, .int .i64 a_3, .bool a_4, .bool a_5, .bool a_6, .int .i64 a_7, .int .i64 a_8, .int .i64 a_9, .slice a_10.p a_10.n a_10.c] t_api_Function (0, 0))) (fun H1 : Heap =>
  letH (H1.push (.cells #[.int .i64 b_0, .int .i64 b_1, .int .i64 b_2, .int .i64 b_3, .bool b_4, .bool b_5, .bool b_6, .int .i64 b_7, .int .i64 b_8, .int .i64 b_9, .slice b_10.p b_10.n b_10.c] t_api_Function (0, 0))) (fun H2 : Heap =>
  ∃ x : Int, rd H2 (⟨H.size, 0, none⟩ : Addr) = some (.int .i64 x) ∧ (
  ∃ x1 : Int, rd H2 (⟨H1.size, 0, none⟩ : Addr) = some (.int .i64 x1) ∧ (
  iteB (x == x1) (
  ∃ x2 : Int, rd H2 ((⟨H.size, 0, none⟩ : Addr).add 1) = some (.int .i64 x2) ∧ (
  ∃ x3 : Int, rd H2 ((⟨H1.size, 0, none⟩ : Addr).add 1) = some (.int .i64 x3) ∧ (
  iteB (x2 == x3) (
  ∃ x4 : Int, rd H2 ((⟨H.size, 0, none⟩ : Addr).add 2) = some (.int .i64 x4) ∧ (
  ∃ x5 : Int, rd H2 ((⟨H1.size, 0, none⟩ : Addr).add 2) = some (.int .i64 x5) ∧ (
  iteB (x4 == x5) (
  ∃ x6 : Int, rd H2 ((⟨H.size, 0, none⟩ : Addr).add 3) = some (.int .i64 x6) ∧ (
  ∃ x7 : Int, rd H2 ((⟨H1.size, 0, none⟩ : Addr).add 3) = some (.int .i64 x7) ∧ (
  iteB (x6 == x7) (
  ∃ x8 : Bool, rd H2 ((⟨H.size, 0, none⟩ : Addr).add 4) = some (.bool x8) ∧ (
  ∃ x9 : Bool, rd H2 ((⟨H1.size, 0, none⟩ : Addr).add 4) = some (.bool x9) ∧ (
  iteB (x8 == x9) (
  ∃ x10 : Bool, rd H2 ((⟨H.size, 0, none⟩ : Addr).add 5) = some (.bool x10) ∧ (
  ∃ x11 : Bool, rd H2 ((⟨H1.size, 0, none⟩ : Addr).add 5) = some (.bool x11) ∧ (
  iteB (x10 == x11) (
  ∃ x12 : Bool, rd H2 ((⟨H.size, 0, none⟩ : Addr).add 6) = some (.bool x12) ∧ (
  ∃ x13 : Bool, rd H2 ((⟨H1.size, 0, none⟩ : Addr).add 6) = some (.bool x13) ∧ (
  iteB (x12 == x13) (
  ∃ x14 : Int, rd H2 ((⟨H.size, 0, none⟩ : Addr).add 7) = some (.int .i64 x14) ∧ (
  ∃ x15 : Int, rd H2 ((⟨H1.size, 0, none⟩ : Addr).add 7) = some (.int .i64 x15) ∧ (
  iteB (x14 == x15) (
  ∃ x16 : Int, rd H2 ((⟨H.size, 0, none⟩ : Addr).add 8) = some (.int .i64 x16) ∧ (
  ∃ x17 : Int, rd H2 ((⟨H1.size, 0, none⟩ : Addr).add 8) = some (.int .i64 x17) ∧ (
  iteB (x16 == x17) (
  ∃ x18 : Int, rd H2 ((⟨H.size, 0, none⟩ : Addr).add 9) = some (.int .i64 x18) ∧ (
  ∃ x19 : Int, rd H2 ((⟨H1.size, 0, none⟩ : Addr).add 9) = some (.int .i64 x19) ∧ (
  iteB (x18 == x19) (
  ∃ x20 : Sl, rd H2 ((⟨H.size, 0, none⟩ : Addr).add 10) = some (.slice x20.p x20.n x20.c) ∧ (
  ∃ x21 : Sl, rd H2 ((⟨H1.size, 0, none⟩ : Addr).add 10) = some (.slice x21.p x21.n x21.c) ∧ (
  CallsH Try.prog n_help_Equal_api_Bar #[.slice x20.p x20.n x20.c, .slice x21.p x21.n x21.c] H2 (fun v H3 =>
  ∃ x22 : Bool, v = .bool x22 ∧ (
  R (.bool x22) H3))))) (
  R (.bool false) H2)))) (
  R (.bool false) H2)))) (
  R (.bool false) H2)))) (
  R (.bool false) H2)))) (
  R (.bool false) H2)))) (
  R (.bool false) H2)))) (
  R (.bool false) H2)))) (
  R (.bool false) H2)))) (
  R (.bool false) H2)))) (
  R (.bool false) H2)))))

theorem F_law23_same_eq (R : Value → Heap → Prop) (a_0 : Int) (a_1 : Int) (a_2 : Int) (a_3 : Int) (a_4 : Bool) (a_5 : Bool) (a_6 : Bool) (a_7 : Int) (a_8 : Int) (a_9 : Int) (a_10 : Sl) (b_0 : Int) (b_1 : Int) (b_2 : Int) (b_3 : Int) (b_4 : Bool) (b_5 : Bool) (b_6 : Bool) (b_7 : Int) (b_8 : Int) (b_9 : Int) (b_10 : Sl) (H : Heap) : wpF Try.prog Try.f14 [] [] [] [20] [.agg #[.int .i64 a_0, .int .i64 a_1, .int .i64 a_2, .int .i64 a_3, .bool a_4, .bool a_5, .bool a_6, .int .i64 a_7, .int .i64 a_8, .int .i64 a_9, .slice a_10.p a_10.n a_10.c], .agg #[.int .i64 b_0, .int .i64 b_1, .int .i64 b_2, .int .i64 b_3, .bool b_4, .bool b_5, .bool b_6, .int .i64 b_7, .int .i64 b_8, .int .i64 b_9, .slice b_10.p b_10.n b_10.c]] H R = F_law23_same R a_0 a_1 a_2 a_3 a_4 a_5 a_6 a_7 a_8 a_9 a_10 b_0 b_1 b_2 b_3 b_4 b_5 b_6 b_7 b_8 b_9 b_10 H := by kernel_rfl

theorem F_law23_same_ok {R : Value → Heap → Prop} (a_0 : Int) (a_1 : Int) (a_2 : Int) (a_3 : Int) (a_4 : Bool) (a_5 : Bool) (a_6 : Bool) (a_7 : Int) (a_8 : Int) (a_9 : Int) (a_10 : Sl) (b_0 : Int) (b_1 : Int) (b_2 : Int) (b_3 : Int) (b_4 : Bool) (b_5 : Bool) (b_6 : Bool) (b_7 : Int) (b_8 : Int) (b_9 : Int) (b_10 : Sl) {H : Heap} (h : F_law23_same R a_0 a_1 a_2 a_3 a_4 a_5 a_6 a_7 a_8 a_9 a_10 b_0 b_1 b_2 b_3 b_4 b_5 b_6 b_7 b_8 b_9 b_10 H) : CallsH Try.prog n_law23_same #[.agg #[.int .i64 a_0, .int .i64 a_1, .int .i64 a_2, .int .i64 a_3, .bool a_4, .bool a_5, .bool a_6, .int .i64 a_7, .int .i64 a_8, .int .i64 a_9, .slice a_10.p a_10.n a_10.c], .agg #[.int .i64 b_0, .int .i64 b_1, .int .i64 b_2, .int .i64 b_3, .bool b_4, .bool b_5, .bool b_6, .int .i64 b_7, .int .i64 b_8, .int .i64 b_9, .slice b_10.p b_10.n b_10.c]] H R :=
  wpF_ok Try.func14 (F_law23_same_eq R a_0 a_1 a_2 a_3 a_4 a_5 a_6 a_7 a_8 a_9 a_10 b_0 b_1 b_2 b_3 b_4 b_5 b_6 b_7 b_8 b_9 b_10 H) h

/-! ### 15: platformfw/platformfwhelp.Equal[platformfw/api.Assignment] -/

def F_help_Equal_api_Assignment_r1 (R : Value → Heap → Prop) (a : Sl) (b : Sl) (I_ : Int → Heap → Prop) (M_ : Int → Heap → Nat) (i : Int) (H1 : Heap) : Prop :=
  iteB (decide (i < (a.n : Int))) (
  0 ≤ i ∧ i < (a.n : Int) ∧ (unSome a.p (fun a1 =>
  ∃ x : Int, rd H1 (a1.add (i.toNat * 5)) = some (.int .i64 x) ∧ ∃ x1 : Int, rd H1 ((a1.add (i.toNat * 5)).add 1) = some (.int .i64 x1) ∧ ∃ x2 : Int, rd H1 ((a1.add (i.toNat * 5)).add 2) = some (.int .i64 x2) ∧ ∃ x3 : Int, rd H1 ((a1.add (i.toNat * 5)).add 3) = some (.int .i64 x3) ∧ ∃ x4 : Int, rd H1 ((a1.add (i.toNat * 5)).add 4) = some (.int .u64 x4) ∧ (
  0 ≤ i ∧ i < (b.n : Int) ∧ (unSome b.p (fun a2 =>
  ∃ x5 : Int, rd H1 (a2.add (i.toNat * 5)) = some (.int .i64 x5) ∧ ∃ x6 : Int, rd H1 ((a2.add (i.toNat * 5)).add 1) = some (.int .i64 x6) ∧ ∃ x7 : Int, rd H1 ((a2.add (i.toNat * 5)).add 2) = some (.int .i64 x7) ∧ ∃ x8 : Int, rd H1 ((a2.add (i.toNat * 5)).add 3) = some (.int .i64 x8) ∧ ∃ x9 : Int, rd H1 ((a2.add (i.toNat * 5)).add 4) = some (.int .u64 x9) ∧ (
  iteB (!(((x == x5) && ((x1 == x6) && ((x2 == x7) && ((x3 == x8) && true)))) && ((x4 == x9) && true))) (
  R (.bool false) H1) (
  letV (IntKind.i64.wrap (i + (1 : Int))) (fun i1 : Int =>
  I_ i1 H1 ∧ M_ i1 H1 < M_ i H1))))))))) (
  R (.bool true) H1)

def F_help_Equal_api_Assignment (R : Value → Heap → Prop) (a : Sl) (b : Sl) (H : Heap) : Prop :=
  iteB ((a.n : Int) != (b.n : Int)) (
  R (.bool false) H) (
  ∃ I_ : Int → Heap → Prop, ∃ M_ : Int → Heap → Nat, I_ (0 : Int) H ∧ (∀ i : Int, ∀ H1 : Heap, I_ i H1 → F_help_Equal_api_Assignment_r1 R a b I_ M_ i H1))

theorem F_help_Equal_api_Assignment_eq (R : Value → Heap → Prop) (a : Sl) (b : Sl) (H : Heap) : wpF Try.prog Try.f15 [(5, .int .i64 0)] [] [(4, [5], [0, 1])] [20] [.slice a.p a.n a.c, .slice b.p b.n b.c] H R = F_help_Equal_api_Assignment R a b H := by kernel_rfl

theorem F_help_Equal_api_Assignment_ok {R : Value → Heap → Prop} (a : Sl) (b : Sl) {H : Heap} (h : F_help_Equal_api_Assignment R a b H) : CallsH Try.prog n_help_Equal_api_Assignment #[.slice a.p a.n a.c, .slice b.p b.n b.c] H R :=
  wpF_ok Try.func15 (F_help_Equal_api_Assignment_eq R a b H) h

/-! ### 16: platformfw/platformfwhelp.Equal[int] -/

def F_help_Equal_int_r1 (R : Value → Heap → Prop) (a : Sl) (b : Sl) (I_ : Int → Heap → Prop) (M_ : Int → Heap → Nat) (i : Int) (H1 : Heap) : Prop :=
  iteB (decide (i < (a.n : Int))) (
  0 ≤ i ∧ i < (a.n : Int) ∧ (unSome a.p (fun a1 =>
  ∃ x : Int, rd H1 (a1.add (i.toNat * 1)) = some (.int .i64 x) ∧ (
  0 ≤ i ∧ i < (b.n : Int) ∧ (unSome b.p (fun a2 =>
  ∃ x1 : Int, rd H1 (a2.add (i.toNat * 1)) = some (.int .i64 x1) ∧ (
  iteB (x != x1) (
  R (.bool false) H1) (
  letV (IntKind.i64.wrap (i + (1 : Int))) (fun i1 : Int =>
  I_ i1 H1 ∧ M_ i1 H1 < M_ i H1))))))))) (
  R (.bool true) H1)

def F_help_Equal_int (R : Value → Heap → Prop) (a : Sl) (b : Sl) (H : Heap) : Prop :=
  iteB ((a.n : Int) != (b.n : Int)) (
  R (.bool false) H) (
  ∃ I_ : Int → Heap → Prop, ∃ M_ : Int → Heap → Nat, I_ (0 : Int) H ∧ (∀ i : Int, ∀ H1 : Heap, I_ i H1 → F_help_Equal_int_r1 R a b I_ M_ i H1))

theorem F_help_Equal_int_eq (R : Value → Heap → Prop) (a : Sl) (b : Sl) (H : Heap) : wpF Try.prog Try.f16 [(5, .int .i64 0)] [] [(4, [5], [0, 1])] [20] [.slice a.p a.n a.c, .slice b.p b.n b.c] H R = F_help_Equal_int R a b H := by kernel_rfl

theorem F_help_Equal_int_ok {R : Value → Heap → Prop} (a : Sl) (b : Sl) {H : Heap} (h : F_help_Equal_int R a b H) : CallsH Try.prog n_help_Equal_int #[.slice a.p a.n a.c, .slice b.p b.n b.c] H R :=
  wpF_ok Try.func16 (F_help_Equal_int_eq R a b H) h

/-! ### 17: platformfw/platformfwlaw23.card -/

def F_law23_card (R : Value → Heap → Prop) (l : Sl) (H : Heap) : Prop :=
  CallsH Try.prog n_gen_Topology #[.slice l.p l.n l.c, .int .i64 (5 : Int)] H (fun v H1 =>
  ∃ x : Sl, v = .slice x.p x.n x.c ∧ (
  R (.slice x.p x.n x.c) H1))

theorem F_law23_card_eq (R : Value → Heap → Prop) (l : Sl) (H : Heap) : wpF Try.prog Try.f17 [] [] [] [20] [.slice l.p l.n l.c] H R = F_law23_card R l H := by kernel_rfl

theorem F_law23_card_ok {R : Value → Heap → Prop} (l : Sl) {H : Heap} (h : F_law23_card R l H) : CallsH Try.prog n_law23_card #[.slice l.p l.n l.c] H R :=
  wpF_ok Try.func17 (F_law23_card_eq R l H) h

/-! ### 18: platformfw/hotplug.Add -/

def F_hotplug_Add_k1 (I_2 : Sl → Int → Heap → Prop) (M_2 : Sl → Int → Heap → Nat) (result2 : Sl) (x49 : Int) (H13 : Heap) (H16 : Heap) (H21 : Heap) : Prop :=
  ∃ x87 : Int, rd H21 (⟨H16.size, 0, none⟩ : Addr) = some (.int .i64 x87) ∧ ∃ x88 : Int, rd H21 ((⟨H16.size, 0, none⟩ : Addr).add 1) = some (.int .i64 x88) ∧ ∃ x89 : Int, rd H21 ((⟨H16.size, 0, none⟩ : Addr).add 2) = some (.int .i64 x89) ∧ ∃ x90 : Int, rd H21 ((⟨H16.size, 0, none⟩ : Addr).add 3) = some (.int .i64 x90) ∧ ∃ x91 : Bool, rd H21 ((⟨H16.size, 0, none⟩ : Addr).add 4) = some (.bool x91) ∧ ∃ x92 : Bool, rd H21 ((⟨H16.size, 0, none⟩ : Addr).add 5) = some (.bool x92) ∧ ∃ x93 : Bool, rd H21 ((⟨H16.size, 0, none⟩ : Addr).add 6) = some (.bool x93) ∧ ∃ x94 : Int, rd H21 ((⟨H16.size, 0, none⟩ : Addr).add 7) = some (.int .i64 x94) ∧ ∃ x95 : Int, rd H21 ((⟨H16.size, 0, none⟩ : Addr).add 8) = some (.int .i64 x95) ∧ ∃ x96 : Int, rd H21 ((⟨H16.size, 0, none⟩ : Addr).add 9) = some (.int .i64 x96) ∧ ∃ x97 : Sl, rd H21 ((⟨H16.size, 0, none⟩ : Addr).add 10) = some (.slice x97.p x97.n x97.c) ∧ (
  letH (H21.push (.cells #[.int .i64 x87, .int .i64 x88, .int .i64 x89, .int .i64 x90, .bool x91, .bool x92, .bool x93, .int .i64 x94, .int .i64 x95, .int .i64 x96, .slice x97.p x97.n x97.c] t_api_Function (0, 0))) (fun H22 : Heap =>
  runH Try.prog (Builtin.append_ #[t_sl_api_Function, t_sl_api_Function] t_sl_api_Function #[.slice result2.p result2.n result2.c, .slice (some (⟨H21.size, 0, none⟩ : Addr)) 1 1]) H22 (fun v5 H23 =>
  ∃ result3 : Sl, v5 = .slice result3.p result3.n result3.c ∧ (
  I_2 result3 (IntKind.i64.wrap (x49 + (1 : Int))) H23 ∧ M_2 result3 (IntKind.i64.wrap (x49 + (1 : Int))) H23 < M_2 result2 x49 H13))))

def F_hotplug_Add_r2 (R : Value → Heap → Prop) (l : Sl) (port : Int) (card : Sl) (I_2 : Sl → Int → Heap → Prop) (M_2 : Sl → Int → Heap → Nat) (result2 : Sl) (x49 : Int) (H13 : Heap) : Prop :=
  iteB (decide (x49 < (card.n : Int))) (
  0 ≤ x49 ∧ x49 < (card.n : Int) ∧ (unSome card.p (fun a2 =>
  ∃ x50 : Int, rd H13 (a2.add (x49.toNat * 11)) = some (.int .i64 x50) ∧ ∃ x51 : Int, rd H13 ((a2.add (x49.toNat * 11)).add 1) = some (.int .i64 x51) ∧ ∃ x52 : Int, rd H13 ((a2.add (x49.toNat * 11)).add 2) = some (.int .i64 x52) ∧ ∃ x53 : Int, rd H13 ((a2.add (x49.toNat * 11)).add 3) = some (.int .i64 x53) ∧ ∃ x54 : Bool, rd H13 ((a2.add (x49.toNat * 11)).add 4) = some (.bool x54) ∧ ∃ x55 : Bool, rd H13 ((a2.add (x49.toNat * 11)).add 5) = some (.bool x55) ∧ ∃ x56 : Bool, rd H13 ((a2.add (x49.toNat * 11)).add 6) = some (.bool x56) ∧ ∃ x57 : Int, rd H13 ((a2.add (x49.toNat * 11)).add 7) = some (.int .i64 x57) ∧ ∃ x58 : Int, rd H13 ((a2.add (x49.toNat * 11)).add 8) = some (.int .i64 x58) ∧ ∃ x59 : Int, rd H13 ((a2.add (x49.toNat * 11)).add 9) = some (.int .i64 x59) ∧ ∃ x60 : Sl, rd H13 ((a2.add (x49.toNat * 11)).add 10) = some (.slice x60.p x60.n x60.c) ∧ (
  letH (H13.push (.cells #[.int .i64 (0 : Int), .int .i64 (0 : Int), .int .i64 (0 : Int), .int .i64 (0 : Int), .bool false, .bool false, .bool false, .int .i64 (0 : Int), .int .i64 (0 : Int), .int .i64 (0 : Int), .slice none 0 0] t_api_Function (0, 0))) (fun H14 : Heap =>
  okRow H14 (⟨H13.size, 0, none⟩ : Addr) 11 ∧ (
  letH (wrs H14 (⟨H13.size, 0, none⟩ : Addr) [.int .i64 x50, .int .i64 x51, .int .i64 x52, .int .i64 x53, .bool x54, .bool x55, .bool x56, .int .i64 x57, .int .i64 x58, .int .i64 x59, .slice x60.p x60.n x60.c]) (fun H15 : Heap =>
  ∃ x61 : Int, rd H15 (⟨H13.size, 0, none⟩ : Addr) = some (.int .i64 x61) ∧ (
  iteB (decide (x61 < (-1 : Int))) (
  R (.tuple #[.slice none 0 0, .int .i64 (1 : Int)]) H15) (
  ∃ x62 : Int, rd H15 (⟨H13.size, 0, none⟩ : Addr) = some (.int .i64 x62) ∧ (
  iteB (decide (x62 ≥ (card.n : Int))) (
  R (.tuple #[.slice none 0 0, .int .i64 (1 : Int)]) H15) (
  ∃ x63 : Int, rd H15 (⟨H13.size, 0, none⟩ : Addr) = some (.int .i64 x63) ∧ ∃ x64 : Int, rd H15 ((⟨H13.size, 0, none⟩ : Addr).add 1) = some (.int .i64 x64) ∧ ∃ x65 : Int, rd H15 ((⟨H13.size, 0, none⟩ : Addr).add 2) = some (.int .i64 x65) ∧ ∃ x66 : Int, rd H15 ((⟨H13.size, 0, none⟩ : Addr).add 3) = some (.int .i64 x66) ∧ ∃ x67 : Bool, rd H15 ((⟨H13.size, 0, none⟩ : Addr).add 4) = some (.bool x67) ∧ ∃ x68 : Bool, rd H15 ((⟨H13.size, 0, none⟩ : Addr).add 5) = some (.bool x68) ∧ ∃ x69 : Bool, rd H15 ((⟨H13.size, 0, none⟩ : Addr).add 6) = some (.bool x69) ∧ ∃ x70 : Int, rd H15 ((⟨H13.size, 0, none⟩ : Addr).add 7) = some (.int .i64 x70) ∧ ∃ x71 : Int, rd H15 ((⟨H13.size, 0, none⟩ : Addr).add 8) = some (.int .i64 x71) ∧ ∃ x72 : Int, rd H15 ((⟨H13.size, 0, none⟩ : Addr).add 9) = some (.int .i64 x72) ∧ ∃ x73 : Sl, rd H15 ((⟨H13.size, 0, none⟩ : Addr).add 10) = some (.slice x73.p x73.n x73.c) ∧ (
  CallsH Try.prog n_hotplug_copyFunction #[.agg #[.int .i64 x63, .int .i64 x64, .int .i64 x65, .int .i64 x66, .bool x67, .bool x68, .bool x69, .int .i64 x70, .int .i64 x71, .int .i64 x72, .slice x73.p x73.n x73.c]] H15 (fun v4 H16 =>
  ∃ x74 : Int, ∃ x75 : Int, ∃ x76 : Int, ∃ x77 : Int, ∃ x78 : Bool, ∃ x79 : Bool, ∃ x80 : Bool, ∃ x81 : Int, ∃ x82 : Int, ∃ x83 : Int, ∃ x84 : Sl, v4 = .agg #[.int .i64 x74, .int .i64 x75, .int .i64 x76, .int .i64 x77, .bool x78, .bool x79, .bool x80, .int .i64 x81, .int .i64 x82, .int .i64 x83, .slice x84.p x84.n x84.c] ∧ (
  letH (H16.push (.cells #[.int .i64 (0 : Int), .int .i64 (0 : Int), .int .i64 (0 : Int), .int .i64 (0 : Int), .bool false, .bool false, .bool false, .int .i64 (0 : Int), .int .i64 (0 : Int), .int .i64 (0 : Int), .slice none 0 0] t_api_Function (0, 0))) (fun H17 : Heap =>
  okRow H17 (⟨H16.size, 0, none⟩ : Addr) 11 ∧ (
  letH (wrs H17 (⟨H16.size, 0, none⟩ : Addr) [.int .i64 x74, .int .i64 x75, .int .i64 x76, .int .i64 x77, .bool x78, .bool x79, .bool x80, .int .i64 x81, .int .i64 x82, .int .i64 x83, .slice x84.p x84.n x84.c]) (fun H18 : Heap =>
  ∃ J_ : Heap → Prop, (
  ∃ x85 : Int, rd H18 (⟨H13.size, 0, none⟩ : Addr) = some (.int .i64 x85) ∧ (
  iteB (x85 == (-1 : Int)) (
  okRow H18 (⟨H16.size, 0, none⟩ : Addr) 1 ∧ (
  letH (wrs H18 (⟨H16.size, 0, none⟩ : Addr) [.int .i64 port]) (fun H19 : Heap =>
  J_ H19))) (
  ∃ x86 : Int, rd H18 (⟨H13.size, 0, none⟩ : Addr) = some (.int .i64 x86) ∧ (
  okRow H18 (⟨H16.size, 0, none⟩ : Addr) 1 ∧ (
  letH (wrs H18 (⟨H16.size, 0, none⟩ : Addr) [.int .i64 (IntKind.i64.wrap (x86 + (l.n : Int)))]) (fun H20 : Heap =>
  J_ H20)))))) ∧ (∀ H21 : Heap, J_ H21 → F_hotplug_Add_k1 I_2 M_2 result2 x49 H13 H16 H21)))))))))))))))))) (
  CallsH Try.prog n_enumerate_Valid #[.slice result2.p result2.n result2.c] H13 (fun v6 H24 =>
  ∃ x98 : Bool, v6 = .bool x98 ∧ (
  iteB (!x98) (
  R (.tuple #[.slice none 0 0, .int .i64 (1 : Int)]) H24) (
  R (.tuple #[.slice result2.p result2.n result2.c, .int .i64 (0 : Int)]) H24))))

def F_hotplug_Add_r3 (R : Value → Heap → Prop) (l : Sl) (port : Int) (card : Sl) (I_1 : Sl → Int → Heap → Prop) (M_1 : Sl → Int → Heap → Nat) (result : Sl) (x15 : Int) (H7 : Heap) : Prop :=
  iteB (decide (x15 < (l.n : Int))) (
  0 ≤ x15 ∧ x15 < (l.n : Int) ∧ (unSome l.p (fun a1 =>
  ∃ x16 : Int, rd H7 (a1.add (x15.toNat * 11)) = some (.int .i64 x16) ∧ ∃ x17 : Int, rd H7 ((a1.add (x15.toNat * 11)).add 1) = some (.int .i64 x17) ∧ ∃ x18 : Int, rd H7 ((a1.add (x15.toNat * 11)).add 2) = some (.int .i64 x18) ∧ ∃ x19 : Int, rd H7 ((a1.add (x15.toNat * 11)).add 3) = some (.int .i64 x19) ∧ ∃ x20 : Bool, rd H7 ((a1.add (x15.toNat * 11)).add 4) = some (.bool x20) ∧ ∃ x21 : Bool, rd H7 ((a1.add (x15.toNat * 11)).add 5) = some (.bool x21) ∧ ∃ x22 : Bool, rd H7 ((a1.add (x15.toNat * 11)).add 6) = some (.bool x22) ∧ ∃ x23 : Int, rd H7 ((a1.add (x15.toNat * 11)).add 7) = some (.int .i64 x23) ∧ ∃ x24 : Int, rd H7 ((a1.add (x15.toNat * 11)).add 8) = some (.int .i64 x24) ∧ ∃ x25 : Int, rd H7 ((a1.add (x15.toNat * 11)).add 9) = some (.int .i64 x25) ∧ ∃ x26 : Sl, rd H7 ((a1.add (x15.toNat * 11)).add 10) = some (.slice x26.p x26.n x26.c) ∧ (
  letH (H7.push (.cells #[.int .i64 (0 : Int), .int .i64 (0 : Int), .int .i64 (0 : Int), .int .i64 (0 : Int), .bool false, .bool false, .bool false, .int .i64 (0 : Int), .int .i64 (0 : Int), .int .i64 (0 : Int), .slice none 0 0] t_api_Function (0, 0))) (fun H8 : Heap =>
  okRow H8 (⟨H7.size, 0, none⟩ : Addr) 11 ∧ (
  letH (wrs H8 (⟨H7.size, 0, none⟩ : Addr) [.int .i64 x16, .int .i64 x17, .int .i64 x18, .int .i64 x19, .bool x20, .bool x21, .bool x22, .int .i64 x23, .int .i64 x24, .int .i64 x25, .slice x26.p x26.n x26.c]) (fun H9 : Heap =>
  ∃ x27 : Int, rd H9 (⟨H7.size, 0, none⟩ : Addr) = some (.int .i64 x27) ∧ ∃ x28 : Int, rd H9 ((⟨H7.size, 0, none⟩ : Addr).add 1) = some (.int .i64 x28) ∧ ∃ x29 : Int, rd H9 ((⟨H7.size, 0, none⟩ : Addr).add 2) = some (.int .i64 x29) ∧ ∃ x30 : Int, rd H9 ((⟨H7.size, 0, none⟩ : Addr).add 3) = some (.int .i64 x30) ∧ ∃ x31 : Bool, rd H9 ((⟨H7.size, 0, none⟩ : Addr).add 4) = some (.bool x31) ∧ ∃ x32 : Bool, rd H9 ((⟨H7.size, 0, none⟩ : Addr).add 5) = some (.bool x32) ∧ ∃ x33 : Bool, rd H9 ((⟨H7.size, 0, none⟩ : Addr).add 6) = some (.bool x33) ∧ ∃ x34 : Int, rd H9 ((⟨H7.size, 0, none⟩ : Addr).add 7) = some (.int .i64 x34) ∧ ∃ x35 : Int, rd H9 ((⟨H7.size, 0, none⟩ : Addr).add 8) = some (.int .i64 x35) ∧ ∃ x36 : Int, rd H9 ((⟨H7.size, 0, none⟩ : Addr).add 9) = some (.int .i64 x36) ∧ ∃ x37 : Sl, rd H9 ((⟨H7.size, 0, none⟩ : Addr).add 10) = some (.slice x37.p x37.n x37.c) ∧ (
  CallsH Try.prog n_hotplug_copyFunction #[.agg #[.int .i64 x27, .int .i64 x28, .int .i64 x29, .int .i64 x30, .bool x31, .bool x32, .bool x33, .int .i64 x34, .int .i64 x35, .int .i64 x36, .slice x37.p x37.n x37.c]] H9 (fun v2 H10 =>
  ∃ x38 : Int, ∃ x39 : Int, ∃ x40 : Int, ∃ x41 : Int, ∃ x42 : Bool, ∃ x43 : Bool, ∃ x44 : Bool, ∃ x45 : Int, ∃ x46 : Int, ∃ x47 : Int, ∃ x48 : Sl, v2 = .agg #[.int .i64 x38, .int .i64 x39, .int .i64 x40, .int .i64 x41, .bool x42, .bool x43, .bool x44, .int .i64 x45, .int .i64 x46, .int .i64 x47, .slice x48.p x48.n x48.c] ∧ (
  letH (H10.push (.cells #[.int .i64 x38, .int .i64 x39, .int .i64 x40, .int .i64 x41, .bool x42, .bool x43, .bool x44, .int .i64 x45, .int .i64 x46, .int .i64 x47, .slice x48.p x48.n x48.c] t_api_Function (0, 0))) (fun H11 : Heap =>
  runH Try.prog (Builtin.append_ #[t_sl_api_Function, t_sl_api_Function] t_sl_api_Function #[.slice result.p result.n result.c, .slice (some (⟨H10.size, 0, none⟩ : Addr)) 1 1]) H11 (fun v3 H12 =>
  ∃ result1 : Sl, v3 = .slice result1.p result1.n result1.c ∧ (
  I_1 result1 (IntKind.i64.wrap (x15 + (1 : Int))) H12 ∧ M_1 result1 (IntKind.i64.wrap (x15 + (1 : Int))) H12 < M_1 result x15 H7))))))))))))) (
  ∃ I_2 : Sl → Int → Heap → Prop, ∃ M_2 : Sl → Int → Heap → Nat, I_2 result (0 : Int) H7 ∧ (∀ result2 : Sl, ∀ x49 : Int, ∀ H13 : Heap, I_2 result2 x49 H13 → F_hotplug_Add_r2 R l port card I_2 M_2 result2 x49 H13))

def F_hotplug_Add_r4 (R : Value → Heap → Prop) (l : Sl) (port : Int) (card : Sl) (I_ : Int → Heap → Prop) (M_ : Int → Heap → Nat) (x2 : Int) (H3 : Heap) : Prop :=
  iteB (decide (x2 < (l.n : Int))) (
  0 ≤ x2 ∧ x2 < (l.n : Int) ∧ (unSome l.p (fun a =>
  ∃ x3 : Int, rd H3 (a.add (x2.toNat * 11)) = some (.int .i64 x3) ∧ ∃ x4 : Int, rd H3 ((a.add (x2.toNat * 11)).add 1) = some (.int .i64 x4) ∧ ∃ x5 : Int, rd H3 ((a.add (x2.toNat * 11)).add 2) = some (.int .i64 x5) ∧ ∃ x6 : Int, rd H3 ((a.add (x2.toNat * 11)).add 3) = some (.int .i64 x6) ∧ ∃ x7 : Bool, rd H3 ((a.add (x2.toNat * 11)).add 4) = some (.bool x7) ∧ ∃ x8 : Bool, rd H3 ((a.add (x2.toNat * 11)).add 5) = some (.bool x8) ∧ ∃ x9 : Bool, rd H3 ((a.add (x2.toNat * 11)).add 6) = some (.bool x9) ∧ ∃ x10 : Int, rd H3 ((a.add (x2.toNat * 11)).add 7) = some (.int .i64 x10) ∧ ∃ x11 : Int, rd H3 ((a.add (x2.toNat * 11)).add 8) = some (.int .i64 x11) ∧ ∃ x12 : Int, rd H3 ((a.add (x2.toNat * 11)).add 9) = some (.int .i64 x12) ∧ ∃ x13 : Sl, rd H3 ((a.add (x2.toNat * 11)).add 10) = some (.slice x13.p x13.n x13.c) ∧ (
  letH (H3.push (.cells #[.int .i64 (0 : Int), .int .i64 (0 : Int), .int .i64 (0 : Int), .int .i64 (0 : Int), .bool false, .bool false, .bool false, .int .i64 (0 : Int), .int .i64 (0 : Int), .int .i64 (0 : Int), .slice none 0 0] t_api_Function (0, 0))) (fun H4 : Heap =>
  okRow H4 (⟨H3.size, 0, none⟩ : Addr) 11 ∧ (
  letH (wrs H4 (⟨H3.size, 0, none⟩ : Addr) [.int .i64 x3, .int .i64 x4, .int .i64 x5, .int .i64 x6, .bool x7, .bool x8, .bool x9, .int .i64 x10, .int .i64 x11, .int .i64 x12, .slice x13.p x13.n x13.c]) (fun H5 : Heap =>
  ∃ x14 : Int, rd H5 (⟨H3.size, 0, none⟩ : Addr) = some (.int .i64 x14) ∧ (
  iteB (x14 == port) (
  R (.tuple #[.slice none 0 0, .int .i64 (17 : Int)]) H5) (
  I_ (IntKind.i64.wrap (x2 + (1 : Int))) H5 ∧ M_ (IntKind.i64.wrap (x2 + (1 : Int))) H5 < M_ x2 H3))))))))) (
  iteB (decide ((card.n : Int) > (IntKind.i64.wrap ((64 : Int) - (l.n : Int))))) (
  R (.tuple #[.slice none 0 0, .int .i64 (1 : Int)]) H3) (
  0 ≤ (0 : Int) ∧ (0 : Int) ≤ (IntKind.i64.wrap ((l.n : Int) + (card.n : Int))) ∧ (IntKind.i64.wrap ((l.n : Int) + (card.n : Int))) * ((88 : Nat) : Int) ≤ 281474976710656 ∧ (
  letH (H3.push (.cells (zeroRow (.agg #[.int .i64 (0 : Int), .int .i64 (0 : Int), .int .i64 (0 : Int), .int .i64 (0 : Int), .bool false, .bool false, .bool false, .int .i64 (0 : Int), .int .i64 (0 : Int), .int .i64 (0 : Int), .slice none 0 0]) (IntKind.i64.wrap ((l.n : Int) + (card.n : Int))).toNat) t_api_Function (0, 0))) (fun H6 : Heap =>
  ∃ I_1 : Sl → Int → Heap → Prop, ∃ M_1 : Sl → Int → Heap → Nat, I_1 (Sl.mk (some (⟨H3.size, 0, none⟩ : Addr)) ((0 : Int).toNat) ((IntKind.i64.wrap ((l.n : Int) + (card.n : Int))).toNat)) (0 : Int) H6 ∧ (∀ result : Sl, ∀ x15 : Int, ∀ H7 : Heap, I_1 result x15 H7 → F_hotplug_Add_r3 R l port card I_1 M_1 result x15 H7)))))

def F_hotplug_Add (R : Value → Heap → Prop) (l : Sl) (port : Int) (card : Sl) (H : Heap) : Prop :=
  CallsH Try.prog n_enumerate_Valid #[.slice l.p l.n l.c] H (fun v H1 =>
  ∃ x : Bool, v = .bool x ∧ (
  iteB (!x) (
  R (.tuple #[.slice none 0 0, .int .i64 (1 : Int)]) H1) (
  CallsH Try.prog n_hotplug_isPort #[.slice l.p l.n l.c, .int .i64 port] H1 (fun v1 H2 =>
  ∃ x1 : Bool, v1 = .bool x1 ∧ (
  iteB (!x1) (
  R (.tuple #[.slice none 0 0, .int .i64 (6 : Int)]) H2) (
  ∃ I_ : Int → Heap → Prop, ∃ M_ : Int → Heap → Nat, I_ (0 : Int) H2 ∧ (∀ x2 : Int, ∀ H3 : Heap, I_ x2 H3 → F_hotplug_Add_r4 R l port card I_ M_ x2 H3)))))))

theorem F_hotplug_Add_eq (R : Value → Heap → Prop) (l : Sl) (port : Int) (card : Sl) (H : Heap) : wpF Try.prog Try.f18 [(10, .slice none 0 0), (25, .int .i64 0), (48, .int .i64 0), (60, .int .i64 0)] [(28, [], [0, 1, 2, 10, 15, 58, 59, 60])] [(6, [25], [0, 1, 2, 23, 24]), (15, [10, 48], [0, 1, 2, 46, 47]), (20, [10, 60], [0, 1, 2, 58, 59])] [20] [.slice l.p l.n l.c, .int .i64 port, .slice card.p card.n card.c] H R = F_hotplug_Add R l port card H := by kernel_rfl

theorem F_hotplug_Add_ok {R : Value → Heap → Prop} (l : Sl) (port : Int) (card : Sl) {H : Heap} (h : F_hotplug_Add R l port card H) : CallsH Try.prog n_hotplug_Add #[.slice l.p l.n l.c, .int .i64 port, .slice card.p card.n card.c] H R :=
  wpF_ok Try.func18 (F_hotplug_Add_eq R l port card H) h

/-! ### 19: platformfw/platformfwref21.Add -/

def F_ref21_Add_k1 (R : Value → Heap → Prop) (l : Sl) (p : Int) (H5 : Heap) (J_ : Heap → Prop) (x18 : Bool) (H10 : Heap) : Prop :=
  iteB x18 (
  R (.tuple #[.slice none 0 0, .int .i64 (1 : Int)]) H10) (
  ∃ x19 : Int, rd H10 (⟨H5.size, 0, none⟩ : Addr) = some (.int .i64 x19) ∧ (
  iteB (x19 == (-1 : Int)) (
  okRow H10 (⟨H5.size, 0, none⟩ : Addr) 1 ∧ (
  letH (wrs H10 (⟨H5.size, 0, none⟩ : Addr) [.int .i64 p]) (fun H11 : Heap =>
  J_ H11))) (
  ∃ x20 : Int, rd H10 (⟨H5.size, 0, none⟩ : Addr) = some (.int .i64 x20) ∧ (
  okRow H10 (⟨H5.size, 0, none⟩ : Addr) 1 ∧ (
  letH (wrs H10 (⟨H5.size, 0, none⟩ : Addr) [.int .i64 (IntKind.i64.wrap (x20 + (l.n : Int)))]) (fun H12 : Heap =>
  J_ H12))))))

def F_ref21_Add_k2 (I_ : Sl → Int → Heap → Prop) (M_ : Sl → Int → Heap → Nat) (out1 : Sl) (i : Int) (H5 : Heap) (H13 : Heap) : Prop :=
  ∃ x21 : Int, rd H13 (⟨H5.size, 0, none⟩ : Addr) = some (.int .i64 x21) ∧ ∃ x22 : Int, rd H13 ((⟨H5.size, 0, none⟩ : Addr).add 1) = some (.int .i64 x22) ∧ ∃ x23 : Int, rd H13 ((⟨H5.size, 0, none⟩ : Addr).add 2) = some (.int .i64 x23) ∧ ∃ x24 : Int, rd H13 ((⟨H5.size, 0, none⟩ : Addr).add 3) = some (.int .i64 x24) ∧ ∃ x25 : Bool, rd H13 ((⟨H5.size, 0, none⟩ : Addr).add 4) = some (.bool x25) ∧ ∃ x26 : Bool, rd H13 ((⟨H5.size, 0, none⟩ : Addr).add 5) = some (.bool x26) ∧ ∃ x27 : Bool, rd H13 ((⟨H5.size, 0, none⟩ : Addr).add 6) = some (.bool x27) ∧ ∃ x28 : Int, rd H13 ((⟨H5.size, 0, none⟩ : Addr).add 7) = some (.int .i64 x28) ∧ ∃ x29 : Int, rd H13 ((⟨H5.size, 0, none⟩ : Addr).add 8) = some (.int .i64 x29) ∧ ∃ x30 : Int, rd H13 ((⟨H5.size, 0, none⟩ : Addr).add 9) = some (.int .i64 x30) ∧ ∃ x31 : Sl, rd H13 ((⟨H5.size, 0, none⟩ : Addr).add 10) = some (.slice x31.p x31.n x31.c) ∧ (
  letH (H13.push (.cells #[.int .i64 x21, .int .i64 x22, .int .i64 x23, .int .i64 x24, .bool x25, .bool x26, .bool x27, .int .i64 x28, .int .i64 x29, .int .i64 x30, .slice x31.p x31.n x31.c] t_api_Function (0, 0))) (fun H14 : Heap =>
  runH Try.prog (Builtin.append_ #[t_sl_api_Function, t_sl_api_Function] t_sl_api_Function #[.slice out1.p out1.n out1.c, .slice (some (⟨H13.size, 0, none⟩ : Addr)) 1 1]) H14 (fun v5 H15 =>
  ∃ out2 : Sl, v5 = .slice out2.p out2.n out2.c ∧ (
  letV (IntKind.i64.wrap (i + (1 : Int))) (fun i1 : Int =>
  I_ out2 i1 H15 ∧ M_ out2 i1 H15 < M_ out1 i H5)))))

def F_ref21_Add_r3 (R : Value → Heap → Prop) (l : Sl) (p : Int) (card : Sl) (I_ : Sl → Int → Heap → Prop) (M_ : Sl → Int → Heap → Nat) (out1 : Sl) (i : Int) (H5 : Heap) : Prop :=
  iteB (decide (i < (card.n : Int))) (
  0 ≤ i ∧ i < (card.n : Int) ∧ (unSome card.p (fun a =>
  ∃ x3 : Int, rd H5 (a.add (i.toNat * 11)) = some (.int .i64 x3) ∧ ∃ x4 : Int, rd H5 ((a.add (i.toNat * 11)).add 1) = some (.int .i64 x4) ∧ ∃ x5 : Int, rd H5 ((a.add (i.toNat * 11)).add 2) = some (.int .i64 x5) ∧ ∃ x6 : Int, rd H5 ((a.add (i.toNat * 11)).add 3) = some (.int .i64 x6) ∧ ∃ x7 : Bool, rd H5 ((a.add (i.toNat * 11)).add 4) = some (.bool x7) ∧ ∃ x8 : Bool, rd H5 ((a.add (i.toNat * 11)).add 5) = some (.bool x8) ∧ ∃ x9 : Bool, rd H5 ((a.add (i.toNat * 11)).add 6) = some (.bool x9) ∧ ∃ x10 : Int, rd H5 ((a.add (i.toNat * 11)).add 7) = some (.int .i64 x10) ∧ ∃ x11 : Int, rd H5 ((a.add (i.toNat * 11)).add 8) = some (.int .i64 x11) ∧ ∃ x12 : Int, rd H5 ((a.add (i.toNat * 11)).add 9) = some (.int .i64 x12) ∧ ∃ x13 : Sl, rd H5 ((a.add (i.toNat * 11)).add 10) = some (.slice x13.p x13.n x13.c) ∧ (
  letH (H5.push (.cells #[.int .i64 (0 : Int), .int .i64 (0 : Int), .int .i64 (0 : Int), .int .i64 (0 : Int), .bool false, .bool false, .bool false, .int .i64 (0 : Int), .int .i64 (0 : Int), .int .i64 (0 : Int), .slice none 0 0] t_api_Function (0, 0))) (fun H6 : Heap =>
  okRow H6 (⟨H5.size, 0, none⟩ : Addr) 11 ∧ (
  letH (wrs H6 (⟨H5.size, 0, none⟩ : Addr) [.int .i64 x3, .int .i64 x4, .int .i64 x5, .int .i64 x6, .bool x7, .bool x8, .bool x9, .int .i64 x10, .int .i64 x11, .int .i64 x12, .slice x13.p x13.n x13.c]) (fun H7 : Heap =>
  ∃ x14 : Sl, rd H7 ((⟨H5.size, 0, none⟩ : Addr).add 10) = some (.slice x14.p x14.n x14.c) ∧ (
  runH Try.prog (Builtin.append_ #[t_sl_api_Bar, t_sl_api_Bar] t_sl_api_Bar #[.slice none 0 0, .slice x14.p x14.n x14.c]) H7 (fun v4 H8 =>
  ∃ x15 : Sl, v4 = .slice x15.p x15.n x15.c ∧ (
  okRow H8 ((⟨H5.size, 0, none⟩ : Addr).add 10) 1 ∧ (
  letH (wrs H8 ((⟨H5.size, 0, none⟩ : Addr).add 10) [.slice x15.p x15.n x15.c]) (fun H9 : Heap =>
  ∃ J_ : Heap → Prop, (
  ∃ J_1 : Bool → Heap → Prop, (
  ∃ x16 : Int, rd H9 (⟨H5.size, 0, none⟩ : Addr) = some (.int .i64 x16) ∧ (
  iteB (decide (x16 < (-1 : Int))) (
  J_1 true H9) (
  ∃ x17 : Int, rd H9 (⟨H5.size, 0, none⟩ : Addr) = some (.int .i64 x17) ∧ (
  J_1 (decide (x17 ≥ i)) H9)))) ∧ (∀ x18 : Bool, ∀ H10 : Heap, J_1 x18 H10 → F_ref21_Add_k1 R l p H5 J_ x18 H10)) ∧ (∀ H13 : Heap, J_ H13 → F_ref21_Add_k2 I_ M_ out1 i H5 H13))))))))))))) (
  CallsH Try.prog n_ref18_Valid #[.slice out1.p out1.n out1.c] H5 (fun v6 H16 =>
  ∃ x32 : Bool, v6 = .bool x32 ∧ (
  iteB (!x32) (
  R (.tuple #[.slice none 0 0, .int .i64 (1 : Int)]) H16) (
  R (.tuple #[.slice out1.p out1.n out1.c, .int .i64 (0 : Int)]) H16))))

def F_ref21_Add (R : Value → Heap → Prop) (l : Sl) (p : Int) (card : Sl) (H : Heap) : Prop :=
  CallsH Try.prog n_ref18_Valid #[.slice l.p l.n l.c] H (fun v H1 =>
  ∃ x : Bool, v = .bool x ∧ (
  iteB (!x) (
  R (.tuple #[.slice none 0 0, .int .i64 (1 : Int)]) H1) (
  CallsH Try.prog n_ref21_port #[.slice l.p l.n l.c, .int .i64 p] H1 (fun v1 H2 =>
  ∃ x1 : Bool, v1 = .bool x1 ∧ (
  iteB (!x1) (
  R (.tuple #[.slice none 0 0, .int .i64 (6 : Int)]) H2) (
  CallsH Try.prog n_ref18_Below #[.slice l.p l.n l.c, .int .i64 p] H2 (fun v2 H3 =>
  ∃ x2 : Sl, v2 = .slice x2.p x2.n x2.c ∧ (
  iteB (decide ((x2.n : Int) > (0 : Int))) (
  R (.tuple #[.slice none 0 0, .int .i64 (17 : Int)]) H3) (
  runH Try.prog (Builtin.append_ #[t_sl_api_Function, t_sl_api_Function] t_sl_api_Function #[.slice none 0 0, .slice l.p l.n l.c]) H3 (fun v3 H4 =>
  ∃ out : Sl, v3 = .slice out.p out.n out.c ∧ (
  ∃ I_ : Sl → Int → Heap → Prop, ∃ M_ : Sl → Int → Heap → Nat, I_ out (0 : Int) H4 ∧ (∀ out1 : Sl, ∀ i : Int, ∀ H5 : Heap, I_ out1 i H5 → F_ref21_Add_r3 R l p card I_ M_ out1 i H5))))))))))))

theorem F_ref21_Add_eq (R : Value → Heap → Prop) (l : Sl) (p : Int) (card : Sl) (H : Heap) : wpF Try.prog Try.f19 [(8, .slice none 0 0), (9, .int .i64 0), (45, .bool false)] [(18, [], [0, 1, 2, 8, 9, 10]), (15, [45], [0, 1, 2, 8, 9, 10])] [(9, [8, 9], [0, 1, 2])] [20] [.slice l.p l.n l.c, .int .i64 p, .slice card.p card.n card.c] H R = F_ref21_Add R l p card H := by kernel_rfl

theorem F_ref21_Add_ok {R : Value → Heap → Prop} (l : Sl) (p : Int) (card : Sl) {H : Heap} (h : F_ref21_Add R l p card H) : CallsH Try.prog n_ref21_Add #[.slice l.p l.n l.c, .int .i64 p, .slice card.p card.n card.c] H R :=
  wpF_ok Try.func19 (F_ref21_Add_eq R l p card H) h

/-! ### 20: platformfw/platformfwhelp.Mod -/

def F_help_Mod (R : Value → Heap → Prop) (v : Int) (n : Int) (H : Heap) : Prop :=
  (IntKind.u64.wrap n) ≠ 0 ∧ (
  letV (IntKind.i64.wrap ((IntKind.u64.wrap v).tmod (IntKind.u64.wrap n))) (fun x : Int =>
  R (.int .i64 x) H))

theorem F_help_Mod_eq (R : Value → Heap → Prop) (v : Int) (n : Int) (H : Heap) : wpF Try.prog Try.f20 [] [] [] [20] [.int .i64 v, .int .i64 n] H R = F_help_Mod R v n H := by kernel_rfl

theorem F_help_Mod_ok {R : Value → Heap → Prop} (v : Int) (n : Int) {H : Heap} (h : F_help_Mod R v n H) : CallsH Try.prog n_help_Mod #[.int .i64 v, .int .i64 n] H R :=
  wpF_ok Try.func20 (F_help_Mod_eq R v n H) h

/-! ### 21: platformfw/platformfwgen.bars -/

def F_gen_bars_k1 (n : Int) (J_ : Int → Heap → Prop) (x2 : Bool) (H2 : Heap) : Prop :=
  iteB x2 (
  letV (IntKind.i64.wrap ((8 : Int) + (n.tmod (16 : Int)))) (fun n2 : Int =>
  J_ n2 H2)) (
  letV (IntKind.i64.wrap ((30 : Int) + (n.tmod (4 : Int)))) (fun n3 : Int =>
  J_ n3 H2))

def F_gen_bars_k2 (most : Int) (I_ : Sl → Int → Heap → Prop) (M_ : Sl → Int → Heap → Nat) (out : Sl) (i : Int) (H1 : Heap) (k : Int) (n4 : Int) (H3 : Heap) : Prop :=
  iteB (decide (k < (3 : Int))) (
  letH (H3.push (.cells #[.int .i64 k, .int .i64 n4] t_api_Bar (0, 0))) (fun H4 : Heap =>
  runH Try.prog (Builtin.append_ #[t_sl_api_Bar, t_sl_api_Bar] t_sl_api_Bar #[.slice out.p out.n out.c, .slice (some (⟨H3.size, 0, none⟩ : Addr)) 1 1]) H4 (fun v2 H5 =>
  ∃ out1 : Sl, v2 = .slice out1.p out1.n out1.c ∧ (
  letV (IntKind.i64.wrap (i + (1 : Int))) (fun i1 : Int =>
  I_ out1 i1 H5 ∧ M_ out1 i1 H5 < M_ out i H1))))) (
  iteB (decide ((IntKind.i64.wrap ((out.n : Int) + (2 : Int))) ≤ most)) (
  letH (H3.push (.cells #[.int .i64 k, .int .i64 n4, .int .i64 (0 : Int), .int .i64 (0 : Int)] t_api_Bar (0, 0))) (fun H6 : Heap =>
  runH Try.prog (Builtin.append_ #[t_sl_api_Bar, t_sl_api_Bar] t_sl_api_Bar #[.slice out.p out.n out.c, .slice (some (⟨H3.size, 0, none⟩ : Addr)) 2 2]) H6 (fun v3 H7 =>
  ∃ out2 : Sl, v3 = .slice out2.p out2.n out2.c ∧ (
  letV (IntKind.i64.wrap (i + (1 : Int))) (fun i2 : Int =>
  I_ out2 i2 H7 ∧ M_ out2 i2 H7 < M_ out i H1))))) (
  letV (IntKind.i64.wrap (i + (1 : Int))) (fun i3 : Int =>
  I_ out i3 H3 ∧ M_ out i3 H3 < M_ out i H1)))

def F_gen_bars_r3 (R : Value → Heap → Prop) (l : Sl) (most : Int) (I_ : Sl → Int → Heap → Prop) (M_ : Sl → Int → Heap → Nat) (out : Sl) (i : Int) (H1 : Heap) : Prop :=
  iteB (decide (i < (l.n : Int))) (
  iteB (decide ((out.n : Int) < most)) (
  0 ≤ i ∧ i < (l.n : Int) ∧ (unSome l.p (fun a =>
  ∃ x : Int, rd H1 (a.add (i.toNat * 2)) = some (.int .i64 x) ∧ (
  CallsP Try.prog n_help_Mod #[.int .i64 x, .int .i64 (5 : Int)] (fun v =>
  ∃ k : Int, v = .int .i64 k ∧ (
  0 ≤ i ∧ i < (l.n : Int) ∧ (unSome l.p (fun a1 =>
  ∃ x1 : Int, rd H1 ((a1.add (i.toNat * 2)).add 1) = some (.int .i64 x1) ∧ (
  CallsP Try.prog n_help_Mod #[.int .i64 x1, .int .i64 (30 : Int)] (fun v1 =>
  ∃ n : Int, v1 = .int .i64 n ∧ (
  ∃ J_ : Int → Heap → Prop, (
  iteB (k == (0 : Int)) (
  J_ (0 : Int) H1) (
  iteB (k == (1 : Int)) (
  letV (IntKind.i64.wrap ((2 : Int) + (n.tmod (7 : Int)))) (fun n1 : Int =>
  J_ n1 H1)) (
  ∃ J_1 : Bool → Heap → Prop, (
  iteB (k == (2 : Int)) (
  J_1 true H1) (
  J_1 ((n.tmod (8 : Int)) != (7 : Int)) H1)) ∧ (∀ x2 : Bool, ∀ H2 : Heap, J_1 x2 H2 → F_gen_bars_k1 n J_ x2 H2)))) ∧ (∀ n4 : Int, ∀ H3 : Heap, J_ n4 H3 → F_gen_bars_k2 most I_ M_ out i H1 k n4 H3)))))))))))) (
  R (.slice out.p out.n out.c) H1)) (
  R (.slice out.p out.n out.c) H1)

def F_gen_bars (R : Value → Heap → Prop) (l : Sl) (most : Int) (H : Heap) : Prop :=
  ∃ I_ : Sl → Int → Heap → Prop, ∃ M_ : Sl → Int → Heap → Nat, I_ (Sl.mk none 0 0) (0 : Int) H ∧ (∀ out : Sl, ∀ i : Int, ∀ H1 : Heap, I_ out i H1 → F_gen_bars_r3 R l most I_ M_ out i H1)

theorem F_gen_bars_eq (R : Value → Heap → Prop) (l : Sl) (most : Int) (H : Heap) : wpF Try.prog Try.f21 [(5, .slice none 0 0), (6, .int .i64 0), (8, .int .i64 0), (45, .bool false)] [(13, [8], [0, 1, 5, 6, 7]), (12, [45], [0, 1, 5, 6, 7, 8])] [(3, [5, 6], [0, 1])] [20] [.slice l.p l.n l.c, .int .i64 most] H R = F_gen_bars R l most H := by kernel_rfl

theorem F_gen_bars_ok {R : Value → Heap → Prop} (l : Sl) (most : Int) {H : Heap} (h : F_gen_bars R l most H) : CallsH Try.prog n_gen_bars #[.slice l.p l.n l.c, .int .i64 most] H R :=
  wpF_ok Try.func21 (F_gen_bars_eq R l most H) h

/-! ### 22: platformfw/platformfwgen.ranges -/

def F_gen_ranges_r1 (R : Value → Heap → Prop) (l : Sl) (fromv : Int) (unit : Int) (most : Int) (n : Int) (I_ : Sl → Int → Heap → Prop) (M_ : Sl → Int → Heap → Nat) (out : Sl) (i : Int) (H1 : Heap) : Prop :=
  iteB (decide (i < (l.n : Int))) (
  iteB (decide (i < most)) (
  0 ≤ i ∧ i < (l.n : Int) ∧ (unSome l.p (fun a =>
  ∃ x : Int, rd H1 (a.add (i.toNat * 2)) = some (.int .u64 x) ∧ (
  n ≠ 0 ∧ (
  0 ≤ i ∧ i < (l.n : Int) ∧ (unSome l.p (fun a1 =>
  ∃ x1 : Int, rd H1 ((a1.add (i.toNat * 2)).add 1) = some (.int .u64 x1) ∧ (
  (IntKind.u64.wrap (n - (x.tmod n))) ≠ 0 ∧ (
  letH (H1.push (.cells #[.int .u64 (IntKind.u64.wrap (fromv + (IntKind.u64.wrap ((x.tmod n) * unit)))), .int .u64 (IntKind.u64.wrap ((IntKind.u64.wrap ((1 : Int) + (x1.tmod (IntKind.u64.wrap (n - (x.tmod n)))))) * unit))] t_api_Range (0, 0))) (fun H2 : Heap =>
  runH Try.prog (Builtin.append_ #[t_sl_api_Range, t_sl_api_Range] t_sl_api_Range #[.slice out.p out.n out.c, .slice (some (⟨H1.size, 0, none⟩ : Addr)) 1 1]) H2 (fun v H3 =>
  ∃ out1 : Sl, v = .slice out1.p out1.n out1.c ∧ (
  letV (IntKind.i64.wrap (i + (1 : Int))) (fun i1 : Int =>
  I_ out1 i1 H3 ∧ M_ out1 i1 H3 < M_ out i H1))))))))))))) (
  R (.slice out.p out.n out.c) H1)) (
  R (.slice out.p out.n out.c) H1)

def F_gen_ranges (R : Value → Heap → Prop) (l : Sl) (fromv : Int) (to : Int) (unit : Int) (most : Int) (H : Heap) : Prop :=
  unit ≠ 0 ∧ (
  letV (IntKind.u64.wrap ((IntKind.u64.wrap (to - fromv)).tdiv unit)) (fun n : Int =>
  ∃ I_ : Sl → Int → Heap → Prop, ∃ M_ : Sl → Int → Heap → Nat, I_ (Sl.mk none 0 0) (0 : Int) H ∧ (∀ out : Sl, ∀ i : Int, ∀ H1 : Heap, I_ out i H1 → F_gen_ranges_r1 R l fromv unit most n I_ M_ out i H1)))

theorem F_gen_ranges_eq (R : Value → Heap → Prop) (l : Sl) (fromv : Int) (to : Int) (unit : Int) (most : Int) (H : Heap) : wpF Try.prog Try.f22 [(11, .slice none 0 0), (13, .int .i64 0)] [] [(4, [11, 13], [0, 1, 3, 4, 12])] [20] [.slice l.p l.n l.c, .int .u64 fromv, .int .u64 to, .int .u64 unit, .int .i64 most] H R = F_gen_ranges R l fromv to unit most H := by kernel_rfl

theorem F_gen_ranges_ok {R : Value → Heap → Prop} (l : Sl) (fromv : Int) (to : Int) (unit : Int) (most : Int) {H : Heap} (h : F_gen_ranges R l fromv to unit most H) : CallsH Try.prog n_gen_ranges #[.slice l.p l.n l.c, .int .u64 fromv, .int .u64 to, .int .u64 unit, .int .i64 most] H R :=
  wpF_ok Try.func22 (F_gen_ranges_eq R l fromv to unit most H) h

/-! ### 23: platformfw/platformfwref18.Valid -/

def F_ref18_Valid_r1 (R : Value → Heap → Prop) (l : Sl) (I_ : Int → Heap → Prop) (M_ : Int → Heap → Nat) (i : Int) (H1 : Heap) (I_1 : Int → Heap → Prop) (M_1 : Int → Heap → Nat) (k : Int) (H4 : Heap) : Prop :=
  iteB (decide (k < i)) (
  0 ≤ k ∧ k < (l.n : Int) ∧ (unSome l.p (fun a6 =>
  ∃ x17 : Int, rd H4 (a6.add (k.toNat * 11)) = some (.int .i64 x17) ∧ (
  0 ≤ i ∧ i < (l.n : Int) ∧ (unSome l.p (fun a7 =>
  ∃ x18 : Int, rd H4 (a7.add (i.toNat * 11)) = some (.int .i64 x18) ∧ (
  iteB (x17 == x18) (
  0 ≤ k ∧ k < (l.n : Int) ∧ (unSome l.p (fun a8 =>
  ∃ x19 : Int, rd H4 ((a8.add (k.toNat * 11)).add 1) = some (.int .i64 x19) ∧ (
  0 ≤ i ∧ i < (l.n : Int) ∧ (unSome l.p (fun a9 =>
  ∃ x20 : Int, rd H4 ((a9.add (i.toNat * 11)).add 1) = some (.int .i64 x20) ∧ (
  iteB (x19 == x20) (
  R (.bool false) H4) (
  letV (IntKind.i64.wrap (k + (1 : Int))) (fun k1 : Int =>
  I_1 k1 H4 ∧ M_1 k1 H4 < M_1 k H4))))))))) (
  letV (IntKind.i64.wrap (k + (1 : Int))) (fun k2 : Int =>
  I_1 k2 H4 ∧ M_1 k2 H4 < M_1 k H4))))))))) (
  letV (IntKind.i64.wrap (i + (1 : Int))) (fun i1 : Int =>
  I_ i1 H4 ∧ M_ i1 H4 < M_ i H1))

def F_ref18_Valid_k2 (R : Value → Heap → Prop) (l : Sl) (I_ : Int → Heap → Prop) (M_ : Int → Heap → Nat) (i : Int) (H1 : Heap) (H3 : Heap) : Prop :=
  ∃ I_1 : Int → Heap → Prop, ∃ M_1 : Int → Heap → Nat, I_1 (0 : Int) H3 ∧ (∀ k : Int, ∀ H4 : Heap, I_1 k H4 → F_ref18_Valid_r1 R l I_ M_ i H1 I_1 M_1 k H4)

def F_ref18_Valid_r3 (R : Value → Heap → Prop) (l : Sl) (I_ : Int → Heap → Prop) (M_ : Int → Heap → Nat) (i : Int) (H1 : Heap) : Prop :=
  iteB (decide (i < (l.n : Int))) (
  ∃ J_ : Heap → Prop, (
  0 ≤ i ∧ i < (l.n : Int) ∧ (unSome l.p (fun a =>
  ∃ x : Int, rd H1 (a.add (i.toNat * 11)) = some (.int .i64 x) ∧ ∃ x1 : Int, rd H1 ((a.add (i.toNat * 11)).add 1) = some (.int .i64 x1) ∧ ∃ x2 : Int, rd H1 ((a.add (i.toNat * 11)).add 2) = some (.int .i64 x2) ∧ ∃ x3 : Int, rd H1 ((a.add (i.toNat * 11)).add 3) = some (.int .i64 x3) ∧ ∃ x4 : Bool, rd H1 ((a.add (i.toNat * 11)).add 4) = some (.bool x4) ∧ ∃ x5 : Bool, rd H1 ((a.add (i.toNat * 11)).add 5) = some (.bool x5) ∧ ∃ x6 : Bool, rd H1 ((a.add (i.toNat * 11)).add 6) = some (.bool x6) ∧ ∃ x7 : Int, rd H1 ((a.add (i.toNat * 11)).add 7) = some (.int .i64 x7) ∧ ∃ x8 : Int, rd H1 ((a.add (i.toNat * 11)).add 8) = some (.int .i64 x8) ∧ ∃ x9 : Int, rd H1 ((a.add (i.toNat * 11)).add 9) = some (.int .i64 x9) ∧ ∃ x10 : Sl, rd H1 ((a.add (i.toNat * 11)).add 10) = some (.slice x10.p x10.n x10.c) ∧ (
  CallsH Try.prog n_ref18_ValidFunction #[.agg #[.int .i64 x, .int .i64 x1, .int .i64 x2, .int .i64 x3, .bool x4, .bool x5, .bool x6, .int .i64 x7, .int .i64 x8, .int .i64 x9, .slice x10.p x10.n x10.c]] H1 (fun v H2 =>
  ∃ x11 : Bool, v = .bool x11 ∧ (
  iteB (!x11) (
  R (.bool false) H2) (
  0 ≤ i ∧ i < (l.n : Int) ∧ (unSome l.p (fun a1 =>
  ∃ x12 : Int, rd H2 (a1.add (i.toNat * 11)) = some (.int .i64 x12) ∧ (
  iteB (decide (x12 < (-1 : Int))) (
  R (.bool false) H2) (
  0 ≤ i ∧ i < (l.n : Int) ∧ (unSome l.p (fun a2 =>
  ∃ x13 : Int, rd H2 (a2.add (i.toNat * 11)) = some (.int .i64 x13) ∧ (
  iteB (decide (x13 ≥ i)) (
  R (.bool false) H2) (
  0 ≤ i ∧ i < (l.n : Int) ∧ (unSome l.p (fun a3 =>
  ∃ x14 : Int, rd H2 (a3.add (i.toNat * 11)) = some (.int .i64 x14) ∧ (
  iteB (decide (x14 ≥ (0 : Int))) (
  0 ≤ i ∧ i < (l.n : Int) ∧ (unSome l.p (fun a4 =>
  ∃ x15 : Int, rd H2 (a4.add (i.toNat * 11)) = some (.int .i64 x15) ∧ (
  0 ≤ x15 ∧ x15 < (l.n : Int) ∧ (unSome l.p (fun a5 =>
  ∃ x16 : Bool, rd H2 ((a5.add (x15.toNat * 11)).add 4) = some (.bool x16) ∧ (
  iteB (!x16) (
  R (.bool false) H2) (
  J_ H2)))))))) (
  J_ H2))))))))))))))))))) ∧ (∀ H3 : Heap, J_ H3 → F_ref18_Valid_k2 R l I_ M_ i H1 H3)) (
  R (.bool true) H1)

def F_ref18_Valid (R : Value → Heap → Prop) (l : Sl) (H : Heap) : Prop :=
  iteB (decide ((l.n : Int) > (64 : Int))) (
  R (.bool false) H) (
  ∃ I_ : Int → Heap → Prop, ∃ M_ : Int → Heap → Nat, I_ (0 : Int) H ∧ (∀ i : Int, ∀ H1 : Heap, I_ i H1 → F_ref18_Valid_r3 R l I_ M_ i H1))

theorem F_ref18_Valid_eq (R : Value → Heap → Prop) (l : Sl) (H : Heap) : wpF Try.prog Try.f23 [(3, .int .i64 0), (4, .int .i64 0)] [(8, [], [0, 3])] [(4, [3], [0]), (9, [4], [0, 3])] [20] [.slice l.p l.n l.c] H R = F_ref18_Valid R l H := by kernel_rfl

theorem F_ref18_Valid_ok {R : Value → Heap → Prop} (l : Sl) {H : Heap} (h : F_ref18_Valid R l H) : CallsH Try.prog n_ref18_Valid #[.slice l.p l.n l.c] H R :=
  wpF_ok Try.func23 (F_ref18_Valid_eq R l H) h

/-! ### 24: platformfw/platformfwref21.ValidHost -/

def F_ref21_ValidHost_r1 (R : Value → Heap → Prop) (H : Heap) (I_ : Int → Heap → Prop) (M_ : Int → Heap → Nat) (i : Int) (H7 : Heap) : Prop :=
  ∃ x14 : Sl, rd H7 ((⟨H.size, 0, none⟩ : Addr).add 7) = some (.slice x14.p x14.n x14.c) ∧ (
  iteB (decide (i < (x14.n : Int))) (
  ∃ x15 : Sl, rd H7 ((⟨H.size, 0, none⟩ : Addr).add 7) = some (.slice x15.p x15.n x15.c) ∧ (
  0 ≤ i ∧ i < (x15.n : Int) ∧ (unSome x15.p (fun a =>
  ∃ x16 : Int, rd H7 (a.add (i.toNat * 3)) = some (.int .i64 x16) ∧ ∃ x17 : Int, rd H7 ((a.add (i.toNat * 3)).add 1) = some (.int .i64 x17) ∧ ∃ x18 : Int, rd H7 ((a.add (i.toNat * 3)).add 2) = some (.int .i64 x18) ∧ (
  letH (H7.push (.cells #[.int .i64 (0 : Int), .int .i64 (0 : Int), .int .i64 (0 : Int)] t_api_Route (0, 0))) (fun H8 : Heap =>
  okRow H8 (⟨H7.size, 0, none⟩ : Addr) 3 ∧ (
  letH (wrs H8 (⟨H7.size, 0, none⟩ : Addr) [.int .i64 x16, .int .i64 x17, .int .i64 x18]) (fun H9 : Heap =>
  ∃ x19 : Int, rd H9 (⟨H7.size, 0, none⟩ : Addr) = some (.int .i64 x19) ∧ (
  iteB (decide (x19 < (0 : Int))) (
  R (.bool false) H9) (
  ∃ x20 : Int, rd H9 (⟨H7.size, 0, none⟩ : Addr) = some (.int .i64 x20) ∧ (
  iteB (decide (x20 > (31 : Int))) (
  R (.bool false) H9) (
  ∃ x21 : Int, rd H9 ((⟨H7.size, 0, none⟩ : Addr).add 1) = some (.int .i64 x21) ∧ (
  iteB (decide (x21 < (1 : Int))) (
  R (.bool false) H9) (
  ∃ x22 : Int, rd H9 ((⟨H7.size, 0, none⟩ : Addr).add 1) = some (.int .i64 x22) ∧ (
  iteB (decide (x22 > (4 : Int))) (
  R (.bool false) H9) (
  ∃ x23 : Int, rd H9 ((⟨H7.size, 0, none⟩ : Addr).add 2) = some (.int .i64 x23) ∧ (
  iteB (decide (x23 < (0 : Int))) (
  R (.bool false) H9) (
  ∃ x24 : Int, rd H9 ((⟨H7.size, 0, none⟩ : Addr).add 2) = some (.int .i64 x24) ∧ (
  ∃ x25 : Sl, rd H9 ((⟨H.size, 0, none⟩ : Addr).add 6) = some (.slice x25.p x25.n x25.c) ∧ (
  iteB (decide (x24 ≥ (x25.n : Int))) (
  R (.bool false) H9) (
  letV (IntKind.i64.wrap (i + (1 : Int))) (fun i1 : Int =>
  I_ i1 H9 ∧ M_ i1 H9 < M_ i H7)))))))))))))))))))))) (
  R (.bool true) H7))

def F_ref21_ValidHost (R : Value → Heap → Prop) (h_0 : Int) (h_1 : Sl) (h_2 : Sl) (h_3 : Sl) (h_4 : Sl) (h_5 : Sl) (h_6 : Sl) (h_7 : Sl) (H : Heap) : Prop :=
  letH (H.push (.cells #[.int .i64 h_0, .slice h_1.p h_1.n h_1.c, .slice h_2.p h_2.n h_2.c, .slice h_3.p h_3.n h_3.c, .slice h_4.p h_4.n h_4.c, .slice h_5.p h_5.n h_5.c, .slice h_6.p h_6.n h_6.c, .slice h_7.p h_7.n h_7.c] t_api_Host (0, 0))) (fun H1 : Heap =>
  ∃ x : Int, rd H1 (⟨H.size, 0, none⟩ : Addr) = some (.int .i64 x) ∧ (
  iteB (decide (x < (1 : Int))) (
  R (.bool false) H1) (
  ∃ x1 : Int, rd H1 (⟨H.size, 0, none⟩ : Addr) = some (.int .i64 x1) ∧ (
  iteB (decide (x1 > (256 : Int))) (
  R (.bool false) H1) (
  ∃ x2 : Sl, rd H1 ((⟨H.size, 0, none⟩ : Addr).add 6) = some (.slice x2.p x2.n x2.c) ∧ (
  iteB (decide ((x2.n : Int) > (16 : Int))) (
  R (.bool false) H1) (
  ∃ x3 : Sl, rd H1 ((⟨H.size, 0, none⟩ : Addr).add 7) = some (.slice x3.p x3.n x3.c) ∧ (
  iteB (decide ((x3.n : Int) > (128 : Int))) (
  R (.bool false) H1) (
  ∃ x4 : Sl, rd H1 ((⟨H.size, 0, none⟩ : Addr).add 1) = some (.slice x4.p x4.n x4.c) ∧ (
  CallsH Try.prog n_ref21_within #[.slice x4.p x4.n x4.c, .int .u64 (0 : Int), .int .u64 (65536 : Int)] H1 (fun v H2 =>
  ∃ x5 : Bool, v = .bool x5 ∧ (
  iteB (!x5) (
  R (.bool false) H2) (
  ∃ x6 : Sl, rd H2 ((⟨H.size, 0, none⟩ : Addr).add 4) = some (.slice x6.p x6.n x6.c) ∧ (
  CallsH Try.prog n_ref21_within #[.slice x6.p x6.n x6.c, .int .u64 (0 : Int), .int .u64 (65536 : Int)] H2 (fun v1 H3 =>
  ∃ x7 : Bool, v1 = .bool x7 ∧ (
  iteB (!x7) (
  R (.bool false) H3) (
  ∃ x8 : Sl, rd H3 ((⟨H.size, 0, none⟩ : Addr).add 2) = some (.slice x8.p x8.n x8.c) ∧ (
  CallsH Try.prog n_ref21_within #[.slice x8.p x8.n x8.c, .int .u64 (0 : Int), .int .u64 (4294967296 : Int)] H3 (fun v2 H4 =>
  ∃ x9 : Bool, v2 = .bool x9 ∧ (
  iteB (!x9) (
  R (.bool false) H4) (
  ∃ x10 : Sl, rd H4 ((⟨H.size, 0, none⟩ : Addr).add 5) = some (.slice x10.p x10.n x10.c) ∧ (
  CallsH Try.prog n_ref21_within #[.slice x10.p x10.n x10.c, .int .u64 (0 : Int), .int .u64 (4503599627370496 : Int)] H4 (fun v3 H5 =>
  ∃ x11 : Bool, v3 = .bool x11 ∧ (
  iteB (!x11) (
  R (.bool false) H5) (
  ∃ x12 : Sl, rd H5 ((⟨H.size, 0, none⟩ : Addr).add 3) = some (.slice x12.p x12.n x12.c) ∧ (
  CallsH Try.prog n_ref21_within #[.slice x12.p x12.n x12.c, .int .u64 (4294967296 : Int), .int .u64 (4503599627370496 : Int)] H5 (fun v4 H6 =>
  ∃ x13 : Bool, v4 = .bool x13 ∧ (
  iteB (!x13) (
  R (.bool false) H6) (
  ∃ I_ : Int → Heap → Prop, ∃ M_ : Int → Heap → Nat, I_ (0 : Int) H6 ∧ (∀ i : Int, ∀ H7 : Heap, I_ i H7 → F_ref21_ValidHost_r1 R H I_ M_ i H7))))))))))))))))))))))))))))))

theorem F_ref21_ValidHost_eq (R : Value → Heap → Prop) (h_0 : Int) (h_1 : Sl) (h_2 : Sl) (h_3 : Sl) (h_4 : Sl) (h_5 : Sl) (h_6 : Sl) (h_7 : Sl) (H : Heap) : wpF Try.prog Try.f24 [(3, .int .i64 0)] [] [(6, [3], [1])] [20] [.agg #[.int .i64 h_0, .slice h_1.p h_1.n h_1.c, .slice h_2.p h_2.n h_2.c, .slice h_3.p h_3.n h_3.c, .slice h_4.p h_4.n h_4.c, .slice h_5.p h_5.n h_5.c, .slice h_6.p h_6.n h_6.c, .slice h_7.p h_7.n h_7.c]] H R = F_ref21_ValidHost R h_0 h_1 h_2 h_3 h_4 h_5 h_6 h_7 H := by kernel_rfl

theorem F_ref21_ValidHost_ok {R : Value → Heap → Prop} (h_0 : Int) (h_1 : Sl) (h_2 : Sl) (h_3 : Sl) (h_4 : Sl) (h_5 : Sl) (h_6 : Sl) (h_7 : Sl) {H : Heap} (h : F_ref21_ValidHost R h_0 h_1 h_2 h_3 h_4 h_5 h_6 h_7 H) : CallsH Try.prog n_ref21_ValidHost #[.agg #[.int .i64 h_0, .slice h_1.p h_1.n h_1.c, .slice h_2.p h_2.n h_2.c, .slice h_3.p h_3.n h_3.c, .slice h_4.p h_4.n h_4.c, .slice h_5.p h_5.n h_5.c, .slice h_6.p h_6.n h_6.c, .slice h_7.p h_7.n h_7.c]] H R :=
  wpF_ok Try.func24 (F_ref21_ValidHost_eq R h_0 h_1 h_2 h_3 h_4 h_5 h_6 h_7 H) h

/-! ### 25: platformfw/platformfwref18.Needs -/

def F_ref18_Needs_r1 (l : Sl) (high : Bool) (all : Sl) (i1 : Int) (J_ : Sl → Heap → Prop) (I_2 : Sl → Int → Heap → Prop) (M_2 : Sl → Int → Heap → Nat) (own2 : Sl) (c : Int) (H7 : Heap) : Prop :=
  0 ≤ i1 ∧ i1 < (l.n : Int) ∧ (unSome l.p (fun a3 =>
  ∃ x6 : Bool, rd H7 ((a3.add (i1.toNat * 11)).add 4) = some (.bool x6) ∧ (
  iteB x6 (
  iteB (decide (c < (3 : Int))) (
  CallsH Try.prog n_ref18_window #[.slice l.p l.n l.c, .bool high, .int .i64 i1, .int .i64 c, .slice all.p all.n all.c] H7 (fun v3 H8 =>
  ∃ x7 : Int, ∃ x8 : Bool, v3 = .tuple #[.int .i64 x7, .bool x8] ∧ (
  iteB x8 (
  letH (H8.push (.cells #[.int .i64 i1, .int .i64 (IntKind.i64.wrap ((-1 : Int) - c)), .int .i64 c, .int .i64 x7] t_api_Need (0, 0))) (fun H9 : Heap =>
  runH Try.prog (Builtin.append_ #[t_sl_api_Need, t_sl_api_Need] t_sl_api_Need #[.slice own2.p own2.n own2.c, .slice (some (⟨H8.size, 0, none⟩ : Addr)) 1 1]) H9 (fun v4 H10 =>
  ∃ own3 : Sl, v4 = .slice own3.p own3.n own3.c ∧ (
  letV (IntKind.i64.wrap (c + (1 : Int))) (fun c1 : Int =>
  I_2 own3 c1 H10 ∧ M_2 own3 c1 H10 < M_2 own2 c H7))))) (
  letV (IntKind.i64.wrap (c + (1 : Int))) (fun c2 : Int =>
  I_2 own2 c2 H8 ∧ M_2 own2 c2 H8 < M_2 own2 c H7))))) (
  J_ own2 H7)) (
  J_ own2 H7))))

def F_ref18_Needs_r2 (R : Value → Heap → Prop) (I_ : Sl → Bool → Int → Heap → Prop) (M_ : Sl → Bool → Int → Heap → Nat) (all : Sl) (bad : Bool) (i1 : Int) (H2 : Heap) (own4 : Sl) (I_3 : Bool → Int → Heap → Prop) (M_3 : Bool → Int → Heap → Nat) (bad1 : Bool) (k3 : Int) (H12 : Heap) : Prop :=
  iteB (decide (k3 < (own4.n : Int))) (
  0 ≤ k3 ∧ k3 < (own4.n : Int) ∧ (unSome own4.p (fun a4 =>
  ∃ x9 : Int, rd H12 ((a4.add (k3.toNat * 4)).add 2) = some (.int .i64 x9) ∧ (
  0 ≤ x9 ∧ x9 < ((3 : Nat) : Int) ∧ (iteB (x9 == (0 : Int)) (
  iteB bad1 (
  letV (IntKind.i64.wrap (k3 + (1 : Int))) (fun k4 : Int =>
  I_3 true k4 H12 ∧ M_3 true k4 H12 < M_3 bad1 k3 H12)) (
  0 ≤ k3 ∧ k3 < (own4.n : Int) ∧ (unSome own4.p (fun a5 =>
  ∃ x10 : Int, rd H12 ((a5.add (k3.toNat * 4)).add 3) = some (.int .i64 x10) ∧ (
  letV (IntKind.i64.wrap (k3 + (1 : Int))) (fun k5 : Int =>
  I_3 (decide (x10 > (15 : Int))) k5 H12 ∧ M_3 (decide (x10 > (15 : Int))) k5 H12 < M_3 bad1 k3 H12)))))) (
  iteB (x9 == (1 : Int)) (
  iteB bad1 (
  letV (IntKind.i64.wrap (k3 + (1 : Int))) (fun k6 : Int =>
  I_3 true k6 H12 ∧ M_3 true k6 H12 < M_3 bad1 k3 H12)) (
  0 ≤ k3 ∧ k3 < (own4.n : Int) ∧ (unSome own4.p (fun a6 =>
  ∃ x11 : Int, rd H12 ((a6.add (k3.toNat * 4)).add 3) = some (.int .i64 x11) ∧ (
  letV (IntKind.i64.wrap (k3 + (1 : Int))) (fun k7 : Int =>
  I_3 (decide (x11 > (31 : Int))) k7 H12 ∧ M_3 (decide (x11 > (31 : Int))) k7 H12 < M_3 bad1 k3 H12)))))) (
  iteB (x9 == (2 : Int)) (
  iteB bad1 (
  letV (IntKind.i64.wrap (k3 + (1 : Int))) (fun k8 : Int =>
  I_3 true k8 H12 ∧ M_3 true k8 H12 < M_3 bad1 k3 H12)) (
  0 ≤ k3 ∧ k3 < (own4.n : Int) ∧ (unSome own4.p (fun a7 =>
  ∃ x12 : Int, rd H12 ((a7.add (k3.toNat * 4)).add 3) = some (.int .i64 x12) ∧ (
  letV (IntKind.i64.wrap (k3 + (1 : Int))) (fun k9 : Int =>
  I_3 (decide (x12 > (44 : Int))) k9 H12 ∧ M_3 (decide (x12 > (44 : Int))) k9 H12 < M_3 bad1 k3 H12)))))) (
  False)))))))) (
  iteB bad1 (
  R (.tuple #[.slice none 0 0, .int .i64 (11 : Int)]) H12) (
  runH Try.prog (Builtin.append_ #[t_sl_api_Need, t_sl_api_Need] t_sl_api_Need #[.slice own4.p own4.n own4.c, .slice all.p all.n all.c]) H12 (fun v5 H13 =>
  ∃ all1 : Sl, v5 = .slice all1.p all1.n all1.c ∧ (
  letV (IntKind.i64.wrap (i1 - (1 : Int))) (fun i2 : Int =>
  I_ all1 bad1 i2 H13 ∧ M_ all1 bad1 i2 H13 < M_ all bad i1 H2)))))

def F_ref18_Needs_k3 (R : Value → Heap → Prop) (I_ : Sl → Bool → Int → Heap → Prop) (M_ : Sl → Bool → Int → Heap → Nat) (all : Sl) (bad : Bool) (i1 : Int) (H2 : Heap) (own4 : Sl) (H11 : Heap) : Prop :=
  ∃ I_3 : Bool → Int → Heap → Prop, ∃ M_3 : Bool → Int → Heap → Nat, I_3 bad (0 : Int) H11 ∧ (∀ bad1 : Bool, ∀ k3 : Int, ∀ H12 : Heap, I_3 bad1 k3 H12 → F_ref18_Needs_r2 R I_ M_ all bad i1 H2 own4 I_3 M_3 bad1 k3 H12)

def F_ref18_Needs_r4 (R : Value → Heap → Prop) (l : Sl) (high : Bool) (I_ : Sl → Bool → Int → Heap → Prop) (M_ : Sl → Bool → Int → Heap → Nat) (all : Sl) (bad : Bool) (i1 : Int) (H2 : Heap) (I_1 : Sl → Int → Heap → Prop) (M_1 : Sl → Int → Heap → Nat) (own : Sl) (k : Int) (H3 : Heap) : Prop :=
  0 ≤ i1 ∧ i1 < (l.n : Int) ∧ (unSome l.p (fun a =>
  ∃ x1 : Sl, rd H3 ((a.add (i1.toNat * 11)).add 10) = some (.slice x1.p x1.n x1.c) ∧ (
  iteB (decide (k < (x1.n : Int))) (
  CallsH Try.prog n_ref18_Class #[.slice l.p l.n l.c, .bool high, .int .i64 i1, .int .i64 k] H3 (fun v1 H4 =>
  ∃ x2 : Int, ∃ x3 : Bool, v1 = .tuple #[.int .i64 x2, .bool x3] ∧ (
  iteB x3 (
  0 ≤ i1 ∧ i1 < (l.n : Int) ∧ (unSome l.p (fun a1 =>
  ∃ x4 : Sl, rd H4 ((a1.add (i1.toNat * 11)).add 10) = some (.slice x4.p x4.n x4.c) ∧ (
  0 ≤ k ∧ k < (x4.n : Int) ∧ (unSome x4.p (fun a2 =>
  ∃ x5 : Int, rd H4 ((a2.add (k.toNat * 2)).add 1) = some (.int .i64 x5) ∧ (
  letH (H4.push (.cells #[.int .i64 i1, .int .i64 k, .int .i64 x2, .int .i64 x5] t_api_Need (0, 0))) (fun H5 : Heap =>
  runH Try.prog (Builtin.append_ #[t_sl_api_Need, t_sl_api_Need] t_sl_api_Need #[.slice own.p own.n own.c, .slice (some (⟨H4.size, 0, none⟩ : Addr)) 1 1]) H5 (fun v2 H6 =>
  ∃ own1 : Sl, v2 = .slice own1.p own1.n own1.c ∧ (
  letV (IntKind.i64.wrap (k + (1 : Int))) (fun k1 : Int =>
  I_1 own1 k1 H6 ∧ M_1 own1 k1 H6 < M_1 own k H3))))))))))) (
  letV (IntKind.i64.wrap (k + (1 : Int))) (fun k2 : Int =>
  I_1 own k2 H4 ∧ M_1 own k2 H4 < M_1 own k H3))))) (
  ∃ J_ : Sl → Heap → Prop, (
  ∃ I_2 : Sl → Int → Heap → Prop, ∃ M_2 : Sl → Int → Heap → Nat, I_2 own (0 : Int) H3 ∧ (∀ own2 : Sl, ∀ c : Int, ∀ H7 : Heap, I_2 own2 c H7 → F_ref18_Needs_r1 l high all i1 J_ I_2 M_2 own2 c H7)) ∧ (∀ own4 : Sl, ∀ H11 : Heap, J_ own4 H11 → F_ref18_Needs_k3 R I_ M_ all bad i1 H2 own4 H11)))))

def F_ref18_Needs_r5 (R : Value → Heap → Prop) (l : Sl) (high : Bool) (I_ : Sl → Bool → Int → Heap → Prop) (M_ : Sl → Bool → Int → Heap → Nat) (all : Sl) (bad : Bool) (i1 : Int) (H2 : Heap) : Prop :=
  iteB (decide (i1 ≥ (0 : Int))) (
  ∃ I_1 : Sl → Int → Heap → Prop, ∃ M_1 : Sl → Int → Heap → Nat, I_1 (Sl.mk none 0 0) (0 : Int) H2 ∧ (∀ own : Sl, ∀ k : Int, ∀ H3 : Heap, I_1 own k H3 → F_ref18_Needs_r4 R l high I_ M_ all bad i1 H2 I_1 M_1 own k H3)) (
  R (.tuple #[.slice all.p all.n all.c, .int .i64 (0 : Int)]) H2)

def F_ref18_Needs (R : Value → Heap → Prop) (l : Sl) (high : Bool) (H : Heap) : Prop :=
  CallsH Try.prog n_ref18_Valid #[.slice l.p l.n l.c] H (fun v H1 =>
  ∃ x : Bool, v = .bool x ∧ (
  iteB (!x) (
  R (.tuple #[.slice none 0 0, .int .i64 (1 : Int)]) H1) (
  letV (IntKind.i64.wrap ((l.n : Int) - (1 : Int))) (fun i : Int =>
  ∃ I_ : Sl → Bool → Int → Heap → Prop, ∃ M_ : Sl → Bool → Int → Heap → Nat, I_ (Sl.mk none 0 0) false i H1 ∧ (∀ all : Sl, ∀ bad : Bool, ∀ i1 : Int, ∀ H2 : Heap, I_ all bad i1 H2 → F_ref18_Needs_r5 R l high I_ M_ all bad i1 H2)))))

theorem F_ref18_Needs_eq (R : Value → Heap → Prop) (l : Sl) (high : Bool) (H : Heap) : wpF Try.prog Try.f25 [(6, .slice none 0 0), (7, .bool false), (8, .int .i64 0), (9, .slice none 0 0), (10, .int .i64 0), (13, .int .i64 0), (16, .int .i64 0)] [(21, [9], [0, 1, 6, 7, 8])] [(6, [6, 7, 8], [0, 1]), (10, [9, 10], [0, 1, 6, 7, 8]), (16, [9, 13], [0, 1, 6, 7, 8]), (22, [7, 16], [0, 1, 6, 8, 9])] [20] [.slice l.p l.n l.c, .bool high] H R = F_ref18_Needs R l high H := by kernel_rfl

theorem F_ref18_Needs_ok {R : Value → Heap → Prop} (l : Sl) (high : Bool) {H : Heap} (h : F_ref18_Needs R l high H) : CallsH Try.prog n_ref18_Needs #[.slice l.p l.n l.c, .bool high] H R :=
  wpF_ok Try.func25 (F_ref18_Needs_eq R l high H) h

/-! ### 26: platformfw/platformfwref21.place -/

def F_ref21_place_r1 (R : Value → Heap → Prop) (H : Heap) (a : Sl) (below : Sl) (H6 : Heap) (x1 : Sl) (x6 : Int) (I_1 : Int → Heap → Prop) (M_1 : Int → Heap → Nat) (i2 : Int) (H10 : Heap) : Prop :=
  iteB (decide (i2 < (x1.n : Int))) (
  0 ≤ i2 ∧ i2 < (below.n : Int) ∧ (unSome below.p (fun a2 =>
  ∃ x7 : Int, rd H10 (a2.add (i2.toNat * 4)) = some (.int .i64 x7) ∧ (
  0 ≤ i2 ∧ i2 < (below.n : Int) ∧ (unSome below.p (fun a3 =>
  ∃ x8 : Int, rd H10 ((a3.add (i2.toNat * 4)).add 1) = some (.int .i64 x8) ∧ (
  0 ≤ i2 ∧ i2 < (x1.n : Int) ∧ (unSome x1.p (fun a4 =>
  ∃ x9 : Int, rd H10 (a4.add (i2.toNat * 1)) = some (.int .u64 x9) ∧ (
  CallsH Try.prog n_ref21_at #[.slice a.p a.n a.c, .int .i64 x7, .int .i64 x8] H10 (fun v3 H11 =>
  ∃ x10 : Int, v3 = .int .i64 x10 ∧ (
  Keeps H10 H11 [((a4.add (i2.toNat * 1)), 1)] ∧ (
  0 ≤ x10 ∧ x10 < (a.n : Int) ∧ (unSome a.p (fun a5 =>
  okRow H11 ((a5.add (x10.toNat * 5)).add 4) 1 ∧ (
  letH (wrs H11 ((a5.add (x10.toNat * 5)).add 4) [.int .u64 x9]) (fun H12 : Heap =>
  letV (IntKind.i64.wrap (i2 + (1 : Int))) (fun i3 : Int =>
  I_1 i3 H12 ∧ M_1 i3 H12 < M_1 i2 H10)))))))))))))))))) (
  iteB (x6 == (0 : Int)) (
  okRow H10 (⟨H6.size, 0, none⟩ : Addr) 4 ∧ (
  letH (wrs H10 (⟨H6.size, 0, none⟩ : Addr) [.int .i64 (0 : Int), .int .i64 (0 : Int), .int .u64 (0 : Int), .int .u64 (0 : Int)]) (fun H13 : Heap =>
  ∃ x11 : Int, rd H13 (⟨H6.size, 0, none⟩ : Addr) = some (.int .i64 x11) ∧ ∃ x12 : Int, rd H13 ((⟨H6.size, 0, none⟩ : Addr).add 1) = some (.int .i64 x12) ∧ ∃ x13 : Int, rd H13 ((⟨H6.size, 0, none⟩ : Addr).add 2) = some (.int .u64 x13) ∧ ∃ x14 : Int, rd H13 ((⟨H6.size, 0, none⟩ : Addr).add 3) = some (.int .u64 x14) ∧ (
  okRow H13 (⟨H.size, 0, none⟩ : Addr) 4 ∧ (
  letH (wrs H13 (⟨H.size, 0, none⟩ : Addr) [.int .i64 x11, .int .i64 x12, .int .u64 x13, .int .u64 x14]) (fun H14 : Heap =>
  ∃ r : Int, rd H14 (⟨H.size, 0, none⟩ : Addr) = some (.int .i64 r) ∧ ∃ r1 : Int, rd H14 ((⟨H.size, 0, none⟩ : Addr).add 1) = some (.int .i64 r1) ∧ ∃ r2 : Int, rd H14 ((⟨H.size, 0, none⟩ : Addr).add 2) = some (.int .u64 r2) ∧ ∃ r3 : Int, rd H14 ((⟨H.size, 0, none⟩ : Addr).add 3) = some (.int .u64 r3) ∧ (
  R (.tuple #[.agg #[.int .i64 r, .int .i64 r1, .int .u64 r2, .int .u64 r3], .int .i64 x6]) H14))))))) (
  ∃ x15 : Int, rd H10 (⟨H6.size, 0, none⟩ : Addr) = some (.int .i64 x15) ∧ ∃ x16 : Int, rd H10 ((⟨H6.size, 0, none⟩ : Addr).add 1) = some (.int .i64 x16) ∧ ∃ x17 : Int, rd H10 ((⟨H6.size, 0, none⟩ : Addr).add 2) = some (.int .u64 x17) ∧ ∃ x18 : Int, rd H10 ((⟨H6.size, 0, none⟩ : Addr).add 3) = some (.int .u64 x18) ∧ (
  okRow H10 (⟨H.size, 0, none⟩ : Addr) 4 ∧ (
  letH (wrs H10 (⟨H.size, 0, none⟩ : Addr) [.int .i64 x15, .int .i64 x16, .int .u64 x17, .int .u64 x18]) (fun H15 : Heap =>
  ∃ r4 : Int, rd H15 (⟨H.size, 0, none⟩ : Addr) = some (.int .i64 r4) ∧ ∃ r5 : Int, rd H15 ((⟨H.size, 0, none⟩ : Addr).add 1) = some (.int .i64 r5) ∧ ∃ r6 : Int, rd H15 ((⟨H.size, 0, none⟩ : Addr).add 2) = some (.int .u64 r6) ∧ ∃ r7 : Int, rd H15 ((⟨H.size, 0, none⟩ : Addr).add 3) = some (.int .u64 r7) ∧ (
  R (.tuple #[.agg #[.int .i64 r4, .int .i64 r5, .int .u64 r6, .int .u64 r7], .int .i64 x6]) H15))))))

def F_ref21_place_r2 (R : Value → Heap → Prop) (H : Heap) (a : Sl) (classv : Int) (free : Sl) (below : Sl) (I_ : Sl → Int → Heap → Prop) (M_ : Sl → Int → Heap → Nat) (sizes : Sl) (i : Int) (H3 : Heap) : Prop :=
  iteB (decide (i < (below.n : Int))) (
  0 ≤ i ∧ i < (below.n : Int) ∧ (unSome below.p (fun a1 =>
  ∃ x : Int, rd H3 ((a1.add (i.toNat * 4)).add 3) = some (.int .i64 x) ∧ (
  letH (H3.push (.cells #[.int .i64 x] t_int (0, 0))) (fun H4 : Heap =>
  runH Try.prog (Builtin.append_ #[t_sl_int, t_sl_int] t_sl_int #[.slice sizes.p sizes.n sizes.c, .slice (some (⟨H3.size, 0, none⟩ : Addr)) 1 1]) H4 (fun v1 H5 =>
  ∃ sizes1 : Sl, v1 = .slice sizes1.p sizes1.n sizes1.c ∧ (
  letV (IntKind.i64.wrap (i + (1 : Int))) (fun i1 : Int =>
  I_ sizes1 i1 H5 ∧ M_ sizes1 i1 H5 < M_ sizes i H3)))))))) (
  CallsH Try.prog n_ref21_Place #[.slice free.p free.n free.c, .slice sizes.p sizes.n sizes.c] H3 (fun v2 H6 =>
  ∃ x1 : Sl, ∃ x2 : Int, ∃ x3 : Int, ∃ x4 : Int, ∃ x5 : Int, ∃ x6 : Int, v2 = .tuple #[.slice x1.p x1.n x1.c, .agg #[.int .i64 x2, .int .i64 x3, .int .u64 x4, .int .u64 x5], .int .i64 x6] ∧ (
  letH (H6.push (.cells #[.int .i64 (0 : Int), .int .i64 (0 : Int), .int .u64 (0 : Int), .int .u64 (0 : Int)] t_api_Certificate (0, 0))) (fun H7 : Heap =>
  okRow H7 (⟨H6.size, 0, none⟩ : Addr) 4 ∧ (
  letH (wrs H7 (⟨H6.size, 0, none⟩ : Addr) [.int .i64 x2, .int .i64 x3, .int .u64 x4, .int .u64 x5]) (fun H8 : Heap =>
  okRow H8 (⟨H6.size, 0, none⟩ : Addr) 1 ∧ (
  letH (wrs H8 (⟨H6.size, 0, none⟩ : Addr) [.int .i64 classv]) (fun H9 : Heap =>
  ∃ I_1 : Int → Heap → Prop, ∃ M_1 : Int → Heap → Nat, I_1 (0 : Int) H9 ∧ (∀ i2 : Int, ∀ H10 : Heap, I_1 i2 H10 → F_ref21_place_r1 R H a below H6 x1 x6 I_1 M_1 i2 H10)))))))))

def F_ref21_place (R : Value → Heap → Prop) (l : Sl) (a : Sl) (needs : Sl) (parent : Int) (classv : Int) (free : Sl) (H : Heap) : Prop :=
  letH (H.push (.cells #[.int .i64 (0 : Int), .int .i64 (0 : Int), .int .u64 (0 : Int), .int .u64 (0 : Int)] t_api_Certificate (0, 0))) (fun H1 : Heap =>
  CallsH Try.prog n_ref18_NeedsBelow #[.slice l.p l.n l.c, .slice needs.p needs.n needs.c, .int .i64 parent, .int .i64 classv] H1 (fun v H2 =>
  ∃ below : Sl, v = .slice below.p below.n below.c ∧ (
  ∃ I_ : Sl → Int → Heap → Prop, ∃ M_ : Sl → Int → Heap → Nat, I_ (Sl.mk none 0 0) (0 : Int) H2 ∧ (∀ sizes : Sl, ∀ i : Int, ∀ H3 : Heap, I_ sizes i H3 → F_ref21_place_r2 R H a classv free below I_ M_ sizes i H3))))

theorem F_ref21_place_eq (R : Value → Heap → Prop) (l : Sl) (a : Sl) (needs : Sl) (parent : Int) (classv : Int) (free : Sl) (H : Heap) : wpF Try.prog Try.f26 [(15, .slice none 0 0), (16, .int .i64 0), (20, .int .i64 0)] [] [(4, [15, 16], [1, 4, 5, 12, 14]), (10, [20], [1, 12, 14, 17, 18, 19])] [20] [.slice l.p l.n l.c, .slice a.p a.n a.c, .slice needs.p needs.n needs.c, .int .i64 parent, .int .i64 classv, .slice free.p free.n free.c] H R = F_ref21_place R l a needs parent classv free H := by kernel_rfl

theorem F_ref21_place_ok {R : Value → Heap → Prop} (l : Sl) (a : Sl) (needs : Sl) (parent : Int) (classv : Int) (free : Sl) {H : Heap} (h : F_ref21_place R l a needs parent classv free H) : CallsH Try.prog n_ref21_place #[.slice l.p l.n l.c, .slice a.p a.n a.c, .slice needs.p needs.n needs.c, .int .i64 parent, .int .i64 classv, .slice free.p free.n free.c] H R :=
  wpF_ok Try.func26 (F_ref21_place_eq R l a needs parent classv free H) h

/-! ### 27: platformfw/platformfwref21.Space -/

def F_ref21_Space (R : Value → Heap → Prop) (h_0 : Int) (h_1 : Sl) (h_2 : Sl) (h_3 : Sl) (h_4 : Sl) (h_5 : Sl) (h_6 : Sl) (h_7 : Sl) (classv : Int) (H : Heap) : Prop :=
  letH (H.push (.cells #[.int .i64 h_0, .slice h_1.p h_1.n h_1.c, .slice h_2.p h_2.n h_2.c, .slice h_3.p h_3.n h_3.c, .slice h_4.p h_4.n h_4.c, .slice h_5.p h_5.n h_5.c, .slice h_6.p h_6.n h_6.c, .slice h_7.p h_7.n h_7.c] t_api_Host (0, 0))) (fun H1 : Heap =>
  iteB (classv == (0 : Int)) (
  ∃ x : Sl, rd H1 ((⟨H.size, 0, none⟩ : Addr).add 1) = some (.slice x.p x.n x.c) ∧ (
  ∃ x1 : Sl, rd H1 ((⟨H.size, 0, none⟩ : Addr).add 4) = some (.slice x1.p x1.n x1.c) ∧ (
  CallsH Try.prog n_ref21_Free #[.slice x.p x.n x.c, .slice x1.p x1.n x1.c] H1 (fun v H2 =>
  ∃ x2 : Sl, v = .slice x2.p x2.n x2.c ∧ (
  R (.slice x2.p x2.n x2.c) H2))))) (
  iteB (classv == (1 : Int)) (
  ∃ x3 : Sl, rd H1 ((⟨H.size, 0, none⟩ : Addr).add 2) = some (.slice x3.p x3.n x3.c) ∧ (
  ∃ x4 : Sl, rd H1 ((⟨H.size, 0, none⟩ : Addr).add 5) = some (.slice x4.p x4.n x4.c) ∧ (
  CallsH Try.prog n_ref21_Free #[.slice x3.p x3.n x3.c, .slice x4.p x4.n x4.c] H1 (fun v1 H3 =>
  ∃ x5 : Sl, v1 = .slice x5.p x5.n x5.c ∧ (
  R (.slice x5.p x5.n x5.c) H3))))) (
  ∃ x6 : Sl, rd H1 ((⟨H.size, 0, none⟩ : Addr).add 3) = some (.slice x6.p x6.n x6.c) ∧ (
  ∃ x7 : Sl, rd H1 ((⟨H.size, 0, none⟩ : Addr).add 5) = some (.slice x7.p x7.n x7.c) ∧ (
  CallsH Try.prog n_ref21_Free #[.slice x6.p x6.n x6.c, .slice x7.p x7.n x7.c] H1 (fun v2 H4 =>
  ∃ x8 : Sl, v2 = .slice x8.p x8.n x8.c ∧ (
  R (.slice x8.p x8.n x8.c) H4)))))))

theorem F_ref21_Space_eq (R : Value → Heap → Prop) (h_0 : Int) (h_1 : Sl) (h_2 : Sl) (h_3 : Sl) (h_4 : Sl) (h_5 : Sl) (h_6 : Sl) (h_7 : Sl) (classv : Int) (H : Heap) : wpF Try.prog Try.f27 [] [] [] [20] [.agg #[.int .i64 h_0, .slice h_1.p h_1.n h_1.c, .slice h_2.p h_2.n h_2.c, .slice h_3.p h_3.n h_3.c, .slice h_4.p h_4.n h_4.c, .slice h_5.p h_5.n h_5.c, .slice h_6.p h_6.n h_6.c, .slice h_7.p h_7.n h_7.c], .int .i64 classv] H R = F_ref21_Space R h_0 h_1 h_2 h_3 h_4 h_5 h_6 h_7 classv H := by kernel_rfl

theorem F_ref21_Space_ok {R : Value → Heap → Prop} (h_0 : Int) (h_1 : Sl) (h_2 : Sl) (h_3 : Sl) (h_4 : Sl) (h_5 : Sl) (h_6 : Sl) (h_7 : Sl) (classv : Int) {H : Heap} (h : F_ref21_Space R h_0 h_1 h_2 h_3 h_4 h_5 h_6 h_7 classv H) : CallsH Try.prog n_ref21_Space #[.agg #[.int .i64 h_0, .slice h_1.p h_1.n h_1.c, .slice h_2.p h_2.n h_2.c, .slice h_3.p h_3.n h_3.c, .slice h_4.p h_4.n h_4.c, .slice h_5.p h_5.n h_5.c, .slice h_6.p h_6.n h_6.c, .slice h_7.p h_7.n h_7.c], .int .i64 classv] H R :=
  wpF_ok Try.func27 (F_ref21_Space_eq R h_0 h_1 h_2 h_3 h_4 h_5 h_6 h_7 classv H) h

/-! ### 28: platformfw/platformfwref21.at -/

def F_ref21_at_r1 (R : Value → Heap → Prop) (a : Sl) (f : Int) (index : Int) (I_ : Int → Heap → Prop) (M_ : Int → Heap → Nat) (i : Int) (H1 : Heap) : Prop :=
  iteB (decide (i < (a.n : Int))) (
  0 ≤ i ∧ i < (a.n : Int) ∧ (unSome a.p (fun a1 =>
  ∃ x : Int, rd H1 (a1.add (i.toNat * 5)) = some (.int .i64 x) ∧ (
  iteB (x == f) (
  0 ≤ i ∧ i < (a.n : Int) ∧ (unSome a.p (fun a2 =>
  ∃ x1 : Int, rd H1 ((a2.add (i.toNat * 5)).add 1) = some (.int .i64 x1) ∧ (
  iteB (x1 == index) (
  R (.int .i64 i) H1) (
  letV (IntKind.i64.wrap (i + (1 : Int))) (fun i1 : Int =>
  I_ i1 H1 ∧ M_ i1 H1 < M_ i H1)))))) (
  letV (IntKind.i64.wrap (i + (1 : Int))) (fun i2 : Int =>
  I_ i2 H1 ∧ M_ i2 H1 < M_ i H1)))))) (
  R (.int .i64 (-1 : Int)) H1)

def F_ref21_at (R : Value → Heap → Prop) (a : Sl) (f : Int) (index : Int) (H : Heap) : Prop :=
  ∃ I_ : Int → Heap → Prop, ∃ M_ : Int → Heap → Nat, I_ (0 : Int) H ∧ (∀ i : Int, ∀ H1 : Heap, I_ i H1 → F_ref21_at_r1 R a f index I_ M_ i H1)

theorem F_ref21_at_eq (R : Value → Heap → Prop) (a : Sl) (f : Int) (index : Int) (H : Heap) : wpF Try.prog Try.f28 [(7, .int .i64 0)] [] [(2, [7], [0, 1, 2])] [20] [.slice a.p a.n a.c, .int .i64 f, .int .i64 index] H R = F_ref21_at R a f index H := by kernel_rfl

theorem F_ref21_at_ok {R : Value → Heap → Prop} (a : Sl) (f : Int) (index : Int) {H : Heap} (h : F_ref21_at R a f index H) : CallsH Try.prog n_ref21_at #[.slice a.p a.n a.c, .int .i64 f, .int .i64 index] H R :=
  wpF_ok Try.func28 (F_ref21_at_eq R a f index H) h

/-! ### 29: platformfw/enumerate.Valid -/

def F_enumerate_Valid_k1 (R : Value → Heap → Prop) (H : Heap) (I_ : Int → Heap → Prop) (M_ : Int → Heap → Nat) (x : Int) (H2 : Heap) (H6 : Heap) : Prop :=
  ∃ x29 : Int, rd H6 (⟨H2.size, 0, none⟩ : Addr) = some (.int .i64 x29) ∧ (
  ∃ x30 : Int, rd H6 ((⟨H2.size, 0, none⟩ : Addr).add 1) = some (.int .i64 x30) ∧ (
  letH (H6.push (.cells #[.int .i64 (0 : Int), .int .i64 (0 : Int)] t_enumerate_place (0, 0))) (fun H7 : Heap =>
  okRow H7 (⟨H6.size, 0, none⟩ : Addr) 2 ∧ (
  letH (wrs H7 (⟨H6.size, 0, none⟩ : Addr) [.int .i64 x29, .int .i64 x30]) (fun H8 : Heap =>
  ∃ x31 : Int, rd H8 (⟨H6.size, 0, none⟩ : Addr) = some (.int .i64 x31) ∧ ∃ x32 : Int, rd H8 ((⟨H6.size, 0, none⟩ : Addr).add 1) = some (.int .i64 x32) ∧ (
  runH Try.prog (Instr.lookup t_map_enumerate_place_bool (.map (some H.size)) (.agg #[.int .i64 x31, .int .i64 x32]) false) H8 (fun v1 H9 =>
  ∃ x33 : Bool, v1 = .bool x33 ∧ (
  iteB x33 (
  R (.bool false) H9) (
  ∃ x34 : Int, rd H9 (⟨H6.size, 0, none⟩ : Addr) = some (.int .i64 x34) ∧ ∃ x35 : Int, rd H9 ((⟨H6.size, 0, none⟩ : Addr).add 1) = some (.int .i64 x35) ∧ (
  runH Try.prog (Instr.mapUpdate t_map_enumerate_place_bool (.map (some H.size)) (.agg #[.int .i64 x34, .int .i64 x35]) (.bool true)) H9 (fun _ H10 =>
  I_ (IntKind.i64.wrap (x + (1 : Int))) H10 ∧ M_ (IntKind.i64.wrap (x + (1 : Int))) H10 < M_ x H2)))))))))))

def F_enumerate_Valid_r2 (R : Value → Heap → Prop) (H : Heap) (l : Sl) (I_ : Int → Heap → Prop) (M_ : Int → Heap → Nat) (x : Int) (H2 : Heap) : Prop :=
  iteB (decide (x < (l.n : Int))) (
  0 ≤ x ∧ x < (l.n : Int) ∧ (unSome l.p (fun a =>
  ∃ x1 : Int, rd H2 (a.add (x.toNat * 11)) = some (.int .i64 x1) ∧ ∃ x2 : Int, rd H2 ((a.add (x.toNat * 11)).add 1) = some (.int .i64 x2) ∧ ∃ x3 : Int, rd H2 ((a.add (x.toNat * 11)).add 2) = some (.int .i64 x3) ∧ ∃ x4 : Int, rd H2 ((a.add (x.toNat * 11)).add 3) = some (.int .i64 x4) ∧ ∃ x5 : Bool, rd H2 ((a.add (x.toNat * 11)).add 4) = some (.bool x5) ∧ ∃ x6 : Bool, rd H2 ((a.add (x.toNat * 11)).add 5) = some (.bool x6) ∧ ∃ x7 : Bool, rd H2 ((a.add (x.toNat * 11)).add 6) = some (.bool x7) ∧ ∃ x8 : Int, rd H2 ((a.add (x.toNat * 11)).add 7) = some (.int .i64 x8) ∧ ∃ x9 : Int, rd H2 ((a.add (x.toNat * 11)).add 8) = some (.int .i64 x9) ∧ ∃ x10 : Int, rd H2 ((a.add (x.toNat * 11)).add 9) = some (.int .i64 x10) ∧ ∃ x11 : Sl, rd H2 ((a.add (x.toNat * 11)).add 10) = some (.slice x11.p x11.n x11.c) ∧ (
  letH (H2.push (.cells #[.int .i64 (0 : Int), .int .i64 (0 : Int), .int .i64 (0 : Int), .int .i64 (0 : Int), .bool false, .bool false, .bool false, .int .i64 (0 : Int), .int .i64 (0 : Int), .int .i64 (0 : Int), .slice none 0 0] t_api_Function (0, 0))) (fun H3 : Heap =>
  okRow H3 (⟨H2.size, 0, none⟩ : Addr) 11 ∧ (
  letH (wrs H3 (⟨H2.size, 0, none⟩ : Addr) [.int .i64 x1, .int .i64 x2, .int .i64 x3, .int .i64 x4, .bool x5, .bool x6, .bool x7, .int .i64 x8, .int .i64 x9, .int .i64 x10, .slice x11.p x11.n x11.c]) (fun H4 : Heap =>
  ∃ x12 : Int, rd H4 (⟨H2.size, 0, none⟩ : Addr) = some (.int .i64 x12) ∧ ∃ x13 : Int, rd H4 ((⟨H2.size, 0, none⟩ : Addr).add 1) = some (.int .i64 x13) ∧ ∃ x14 : Int, rd H4 ((⟨H2.size, 0, none⟩ : Addr).add 2) = some (.int .i64 x14) ∧ ∃ x15 : Int, rd H4 ((⟨H2.size, 0, none⟩ : Addr).add 3) = some (.int .i64 x15) ∧ ∃ x16 : Bool, rd H4 ((⟨H2.size, 0, none⟩ : Addr).add 4) = some (.bool x16) ∧ ∃ x17 : Bool, rd H4 ((⟨H2.size, 0, none⟩ : Addr).add 5) = some (.bool x17) ∧ ∃ x18 : Bool, rd H4 ((⟨H2.size, 0, none⟩ : Addr).add 6) = some (.bool x18) ∧ ∃ x19 : Int, rd H4 ((⟨H2.size, 0, none⟩ : Addr).add 7) = some (.int .i64 x19) ∧ ∃ x20 : Int, rd H4 ((⟨H2.size, 0, none⟩ : Addr).add 8) = some (.int .i64 x20) ∧ ∃ x21 : Int, rd H4 ((⟨H2.size, 0, none⟩ : Addr).add 9) = some (.int .i64 x21) ∧ ∃ x22 : Sl, rd H4 ((⟨H2.size, 0, none⟩ : Addr).add 10) = some (.slice x22.p x22.n x22.c) ∧ (
  CallsH Try.prog n_pciconf_Valid #[.agg #[.int .i64 x12, .int .i64 x13, .int .i64 x14, .int .i64 x15, .bool x16, .bool x17, .bool x18, .int .i64 x19, .int .i64 x20, .int .i64 x21, .slice x22.p x22.n x22.c]] H4 (fun v H5 =>
  ∃ x23 : Bool, v = .bool x23 ∧ (
  iteB (!x23) (
  R (.bool false) H5) (
  ∃ x24 : Int, rd H5 (⟨H2.size, 0, none⟩ : Addr) = some (.int .i64 x24) ∧ (
  iteB (decide (x24 < (-1 : Int))) (
  R (.bool false) H5) (
  ∃ x25 : Int, rd H5 (⟨H2.size, 0, none⟩ : Addr) = some (.int .i64 x25) ∧ (
  iteB (decide (x25 ≥ x)) (
  R (.bool false) H5) (
  ∃ J_ : Heap → Prop, (
  ∃ x26 : Int, rd H5 (⟨H2.size, 0, none⟩ : Addr) = some (.int .i64 x26) ∧ (
  iteB (decide (x26 ≥ (0 : Int))) (
  ∃ x27 : Int, rd H5 (⟨H2.size, 0, none⟩ : Addr) = some (.int .i64 x27) ∧ (
  0 ≤ x27 ∧ x27 < (l.n : Int) ∧ (unSome l.p (fun a1 =>
  ∃ x28 : Bool, rd H5 ((a1.add (x27.toNat * 11)).add 4) = some (.bool x28) ∧ (
  iteB (!x28) (
  R (.bool false) H5) (
  J_ H5)))))) (
  J_ H5))) ∧ (∀ H6 : Heap, J_ H6 → F_enumerate_Valid_k1 R H I_ M_ x H2 H6)))))))))))))))) (
  R (.bool true) H2)

def F_enumerate_Valid (R : Value → Heap → Prop) (l : Sl) (H : Heap) : Prop :=
  iteB (decide ((l.n : Int) > (64 : Int))) (
  R (.bool false) H) (
  letH (H.push (.map #[] 0)) (fun H1 : Heap =>
  ∃ I_ : Int → Heap → Prop, ∃ M_ : Int → Heap → Nat, I_ (0 : Int) H1 ∧ (∀ x : Int, ∀ H2 : Heap, I_ x H2 → F_enumerate_Valid_r2 R H l I_ M_ x H2)))

theorem F_enumerate_Valid_eq (R : Value → Heap → Prop) (l : Sl) (H : Heap) : wpF Try.prog Try.f29 [(13, .int .i64 0)] [(11, [], [0, 3, 5, 11, 12, 13])] [(5, [13], [0, 3, 11, 12])] [20] [.slice l.p l.n l.c] H R = F_enumerate_Valid R l H := by kernel_rfl

theorem F_enumerate_Valid_ok {R : Value → Heap → Prop} (l : Sl) {H : Heap} (h : F_enumerate_Valid R l H) : CallsH Try.prog n_enumerate_Valid #[.slice l.p l.n l.c] H R :=
  wpF_ok Try.func29 (F_enumerate_Valid_eq R l H) h

/-! ### 30: platformfw/hotplug.isPort -/

def F_hotplug_isPort (R : Value → Heap → Prop) (l : Sl) (port : Int) (H : Heap) : Prop :=
  iteB (decide (port ≥ (0 : Int))) (
  iteB (decide (port < (l.n : Int))) (
  0 ≤ port ∧ port < (l.n : Int) ∧ (unSome l.p (fun a =>
  ∃ x : Bool, rd H ((a.add (port.toNat * 11)).add 4) = some (.bool x) ∧ (
  iteB x (
  0 ≤ port ∧ port < (l.n : Int) ∧ (unSome l.p (fun a1 =>
  ∃ x1 : Bool, rd H ((a1.add (port.toNat * 11)).add 6) = some (.bool x1) ∧ (
  R (.bool x1) H)))) (
  R (.bool false) H))))) (
  R (.bool false) H)) (
  R (.bool false) H)

theorem F_hotplug_isPort_eq (R : Value → Heap → Prop) (l : Sl) (port : Int) (H : Heap) : wpF Try.prog Try.f30 [] [] [] [20] [.slice l.p l.n l.c, .int .i64 port] H R = F_hotplug_isPort R l port H := by kernel_rfl

theorem F_hotplug_isPort_ok {R : Value → Heap → Prop} (l : Sl) (port : Int) {H : Heap} (h : F_hotplug_isPort R l port H) : CallsH Try.prog n_hotplug_isPort #[.slice l.p l.n l.c, .int .i64 port] H R :=
  wpF_ok Try.func30 (F_hotplug_isPort_eq R l port H) h

/-! ### 31: platformfw/hotplug.copyFunction -/

def F_hotplug_copyFunction (R : Value → Heap → Prop) (f_0 : Int) (f_1 : Int) (f_2 : Int) (f_3 : Int) (f_4 : Bool) (f_5 : Bool) (f_6 : Bool) (f_7 : Int) (f_8 : Int) (f_9 : Int) (f_10 : Sl) (H : Heap) : Prop :=
  letH (H.push (.cells #[.int .i64 f_0, .int .i64 f_1, .int .i64 f_2, .int .i64 f_3, .bool f_4, .bool f_5, .bool f_6, .int .i64 f_7, .int .i64 f_8, .int .i64 f_9, .slice f_10.p f_10.n f_10.c] t_api_Function (0, 0))) (fun H1 : Heap =>
  letH (H1.push (.cells #[.int .i64 (0 : Int), .int .i64 (0 : Int), .int .i64 (0 : Int), .int .i64 (0 : Int), .bool false, .bool false, .bool false, .int .i64 (0 : Int), .int .i64 (0 : Int), .int .i64 (0 : Int), .slice none 0 0] t_api_Function (0, 0))) (fun H2 : Heap =>
  ∃ x : Sl, rd H2 ((⟨H.size, 0, none⟩ : Addr).add 10) = some (.slice x.p x.n x.c) ∧ (
  CallsH Try.prog n_slices_Clone_sl_api_Bar_api_Bar #[.slice x.p x.n x.c] H2 (fun v H3 =>
  ∃ x1 : Sl, v = .slice x1.p x1.n x1.c ∧ (
  okRow H3 ((⟨H.size, 0, none⟩ : Addr).add 10) 1 ∧ (
  letH (wrs H3 ((⟨H.size, 0, none⟩ : Addr).add 10) [.slice x1.p x1.n x1.c]) (fun H4 : Heap =>
  ∃ x2 : Int, rd H4 (⟨H.size, 0, none⟩ : Addr) = some (.int .i64 x2) ∧ ∃ x3 : Int, rd H4 ((⟨H.size, 0, none⟩ : Addr).add 1) = some (.int .i64 x3) ∧ ∃ x4 : Int, rd H4 ((⟨H.size, 0, none⟩ : Addr).add 2) = some (.int .i64 x4) ∧ ∃ x5 : Int, rd H4 ((⟨H.size, 0, none⟩ : Addr).add 3) = some (.int .i64 x5) ∧ ∃ x6 : Bool, rd H4 ((⟨H.size, 0, none⟩ : Addr).add 4) = some (.bool x6) ∧ ∃ x7 : Bool, rd H4 ((⟨H.size, 0, none⟩ : Addr).add 5) = some (.bool x7) ∧ ∃ x8 : Bool, rd H4 ((⟨H.size, 0, none⟩ : Addr).add 6) = some (.bool x8) ∧ ∃ x9 : Int, rd H4 ((⟨H.size, 0, none⟩ : Addr).add 7) = some (.int .i64 x9) ∧ ∃ x10 : Int, rd H4 ((⟨H.size, 0, none⟩ : Addr).add 8) = some (.int .i64 x10) ∧ ∃ x11 : Int, rd H4 ((⟨H.size, 0, none⟩ : Addr).add 9) = some (.int .i64 x11) ∧ ∃ x12 : Sl, rd H4 ((⟨H.size, 0, none⟩ : Addr).add 10) = some (.slice x12.p x12.n x12.c) ∧ (
  okRow H4 (⟨H1.size, 0, none⟩ : Addr) 11 ∧ (
  letH (wrs H4 (⟨H1.size, 0, none⟩ : Addr) [.int .i64 x2, .int .i64 x3, .int .i64 x4, .int .i64 x5, .bool x6, .bool x7, .bool x8, .int .i64 x9, .int .i64 x10, .int .i64 x11, .slice x12.p x12.n x12.c]) (fun H5 : Heap =>
  ∃ r : Int, rd H5 (⟨H1.size, 0, none⟩ : Addr) = some (.int .i64 r) ∧ ∃ r1 : Int, rd H5 ((⟨H1.size, 0, none⟩ : Addr).add 1) = some (.int .i64 r1) ∧ ∃ r2 : Int, rd H5 ((⟨H1.size, 0, none⟩ : Addr).add 2) = some (.int .i64 r2) ∧ ∃ r3 : Int, rd H5 ((⟨H1.size, 0, none⟩ : Addr).add 3) = some (.int .i64 r3) ∧ ∃ r4 : Bool, rd H5 ((⟨H1.size, 0, none⟩ : Addr).add 4) = some (.bool r4) ∧ ∃ r5 : Bool, rd H5 ((⟨H1.size, 0, none⟩ : Addr).add 5) = some (.bool r5) ∧ ∃ r6 : Bool, rd H5 ((⟨H1.size, 0, none⟩ : Addr).add 6) = some (.bool r6) ∧ ∃ r7 : Int, rd H5 ((⟨H1.size, 0, none⟩ : Addr).add 7) = some (.int .i64 r7) ∧ ∃ r8 : Int, rd H5 ((⟨H1.size, 0, none⟩ : Addr).add 8) = some (.int .i64 r8) ∧ ∃ r9 : Int, rd H5 ((⟨H1.size, 0, none⟩ : Addr).add 9) = some (.int .i64 r9) ∧ ∃ r10 : Sl, rd H5 ((⟨H1.size, 0, none⟩ : Addr).add 10) = some (.slice r10.p r10.n r10.c) ∧ (
  R (.agg #[.int .i64 r, .int .i64 r1, .int .i64 r2, .int .i64 r3, .bool r4, .bool r5, .bool r6, .int .i64 r7, .int .i64 r8, .int .i64 r9, .slice r10.p r10.n r10.c]) H5)))))))))))

theorem F_hotplug_copyFunction_eq (R : Value → Heap → Prop) (f_0 : Int) (f_1 : Int) (f_2 : Int) (f_3 : Int) (f_4 : Bool) (f_5 : Bool) (f_6 : Bool) (f_7 : Int) (f_8 : Int) (f_9 : Int) (f_10 : Sl) (H : Heap) : wpF Try.prog Try.f31 [] [] [] [20] [.agg #[.int .i64 f_0, .int .i64 f_1, .int .i64 f_2, .int .i64 f_3, .bool f_4, .bool f_5, .bool f_6, .int .i64 f_7, .int .i64 f_8, .int .i64 f_9, .slice f_10.p f_10.n f_10.c]] H R = F_hotplug_copyFunction R f_0 f_1 f_2 f_3 f_4 f_5 f_6 f_7 f_8 f_9 f_10 H := by kernel_rfl

theorem F_hotplug_copyFunction_ok {R : Value → Heap → Prop} (f_0 : Int) (f_1 : Int) (f_2 : Int) (f_3 : Int) (f_4 : Bool) (f_5 : Bool) (f_6 : Bool) (f_7 : Int) (f_8 : Int) (f_9 : Int) (f_10 : Sl) {H : Heap} (h : F_hotplug_copyFunction R f_0 f_1 f_2 f_3 f_4 f_5 f_6 f_7 f_8 f_9 f_10 H) : CallsH Try.prog n_hotplug_copyFunction #[.agg #[.int .i64 f_0, .int .i64 f_1, .int .i64 f_2, .int .i64 f_3, .bool f_4, .bool f_5, .bool f_6, .int .i64 f_7, .int .i64 f_8, .int .i64 f_9, .slice f_10.p f_10.n f_10.c]] H R :=
  wpF_ok Try.func31 (F_hotplug_copyFunction_eq R f_0 f_1 f_2 f_3 f_4 f_5 f_6 f_7 f_8 f_9 f_10 H) h

/-! ### 32: platformfw/platformfwref21.port -/

def F_ref21_port (R : Value → Heap → Prop) (l : Sl) (i : Int) (H : Heap) : Prop :=
  iteB (decide (i ≥ (0 : Int))) (
  iteB (decide (i < (l.n : Int))) (
  0 ≤ i ∧ i < (l.n : Int) ∧ (unSome l.p (fun a =>
  ∃ x : Bool, rd H ((a.add (i.toNat * 11)).add 6) = some (.bool x) ∧ (
  R (.bool x) H)))) (
  R (.bool false) H)) (
  R (.bool false) H)

theorem F_ref21_port_eq (R : Value → Heap → Prop) (l : Sl) (i : Int) (H : Heap) : wpF Try.prog Try.f32 [] [] [] [20] [.slice l.p l.n l.c, .int .i64 i] H R = F_ref21_port R l i H := by kernel_rfl

theorem F_ref21_port_ok {R : Value → Heap → Prop} (l : Sl) (i : Int) {H : Heap} (h : F_ref21_port R l i H) : CallsH Try.prog n_ref21_port #[.slice l.p l.n l.c, .int .i64 i] H R :=
  wpF_ok Try.func32 (F_ref21_port_eq R l i H) h

/-! ### 33: platformfw/platformfwref21.under -/

def F_ref21_under_r1 (R : Value → Heap → Prop) (l : Sl) (p : Int) (I_ : Int → Heap → Prop) (M_ : Int → Heap → Nat) (i2 : Int) (H1 : Heap) : Prop :=
  iteB (decide (i2 ≥ (0 : Int))) (
  iteB (i2 == p) (
  R (.bool true) H1) (
  0 ≤ i2 ∧ i2 < (l.n : Int) ∧ (unSome l.p (fun a1 =>
  ∃ i3 : Int, rd H1 (a1.add (i2.toNat * 11)) = some (.int .i64 i3) ∧ (
  I_ i3 H1 ∧ M_ i3 H1 < M_ i2 H1))))) (
  R (.bool false) H1)

def F_ref21_under (R : Value → Heap → Prop) (l : Sl) (i : Int) (p : Int) (H : Heap) : Prop :=
  0 ≤ i ∧ i < (l.n : Int) ∧ (unSome l.p (fun a =>
  ∃ i1 : Int, rd H (a.add (i.toNat * 11)) = some (.int .i64 i1) ∧ (
  ∃ I_ : Int → Heap → Prop, ∃ M_ : Int → Heap → Nat, I_ i1 H ∧ (∀ i2 : Int, ∀ H1 : Heap, I_ i2 H1 → F_ref21_under_r1 R l p I_ M_ i2 H1))))

theorem F_ref21_under_eq (R : Value → Heap → Prop) (l : Sl) (i : Int) (p : Int) (H : Heap) : wpF Try.prog Try.f33 [(1, .int .i64 0)] [] [(2, [1], [0, 2])] [20] [.slice l.p l.n l.c, .int .i64 i, .int .i64 p] H R = F_ref21_under R l i p H := by kernel_rfl

theorem F_ref21_under_ok {R : Value → Heap → Prop} (l : Sl) (i : Int) (p : Int) {H : Heap} (h : F_ref21_under R l i p H) : CallsH Try.prog n_ref21_under #[.slice l.p l.n l.c, .int .i64 i, .int .i64 p] H R :=
  wpF_ok Try.func33 (F_ref21_under_eq R l i p H) h

/-! ### 34: platformfw/hotplug.NewSlot -/

def F_hotplug_NewSlot (R : Value → Heap → Prop) (present : Bool) (delay : Int) (H : Heap) : Prop :=
  iteB (decide (delay > (4294967296 : Int))) (
  R (.tuple #[.pointer none, .int .i64 (1 : Int)]) H) (
  letH (H.push (.cells #[.int .i64 (1 : Int), .int .u64 delay, .int .u64 (0 : Int)] t_hotplug_Slot (0, 0))) (fun H1 : Heap =>
  iteB present (
  okRow H1 (⟨H.size, 0, none⟩ : Addr) 1 ∧ (
  letH (wrs H1 (⟨H.size, 0, none⟩ : Addr) [.int .i64 (2 : Int)]) (fun H2 : Heap =>
  R (.tuple #[.pointer (some (⟨H.size, 0, none⟩ : Addr)), .int .i64 (0 : Int)]) H2))) (
  R (.tuple #[.pointer (some (⟨H.size, 0, none⟩ : Addr)), .int .i64 (0 : Int)]) H1)))

theorem F_hotplug_NewSlot_eq (R : Value → Heap → Prop) (present : Bool) (delay : Int) (H : Heap) : wpF Try.prog Try.f34 [] [] [] [20] [.bool present, .int .u64 delay] H R = F_hotplug_NewSlot R present delay H := by kernel_rfl

theorem F_hotplug_NewSlot_ok {R : Value → Heap → Prop} (present : Bool) (delay : Int) {H : Heap} (h : F_hotplug_NewSlot R present delay H) : CallsH Try.prog n_hotplug_NewSlot #[.bool present, .int .u64 delay] H R :=
  wpF_ok Try.func34 (F_hotplug_NewSlot_eq R present delay H) h

/-! ### 35: (*platformfw/hotplug.Slot).Handle -/

def F_hotplug_Slot_Handle_k1 (R : Value → Heap → Prop) (s : Addr) (now : Int) (x4 : Bool) (H2 : Heap) : Prop :=
  iteB x4 (
  ∃ x5 : Int, rd H2 (s.add 1) = some (.int .u64 x5) ∧ (
  CallsH Try.prog n_hotplug_saturatingSum #[.int .u64 now, .int .u64 x5] H2 (fun v1 H3 =>
  ∃ x6 : Int, v1 = .int .u64 x6 ∧ (
  okRow H3 (s.add 2) 1 ∧ (
  letH (wrs H3 (s.add 2) [.int .u64 x6]) (fun H4 : Heap =>
  letH (H4.push (.cells #[.int .i64 (1 : Int)] t_int (0, 0))) (fun H5 : Heap =>
  CallsH Try.prog n_hotplug_Slot_enter #[.pointer (some s), .int .i64 (3 : Int), .slice (some (⟨H4.size, 0, none⟩ : Addr)) 1 1] H5 (fun v2 H6 =>
  ∃ x7 : Sl, ∃ x8 : Int, v2 = .tuple #[.slice x7.p x7.n x7.c, .int .i64 x8] ∧ (
  R (.tuple #[.slice x7.p x7.n x7.c, .int .i64 x8]) H6))))))))) (
  R (.tuple #[.slice none 0 0, .int .i64 (9 : Int)]) H2)

def F_hotplug_Slot_Handle_k2 (R : Value → Heap → Prop) (s : Addr) (x23 : Bool) (H17 : Heap) : Prop :=
  iteB x23 (
  letH (H17.push (.cells #[.int .i64 (5 : Int), .int .i64 (2 : Int)] t_int (0, 0))) (fun H18 : Heap =>
  CallsH Try.prog n_hotplug_Slot_enter #[.pointer (some s), .int .i64 (1 : Int), .slice (some (⟨H17.size, 0, none⟩ : Addr)) 2 2] H18 (fun v8 H19 =>
  ∃ x24 : Sl, ∃ x25 : Int, v8 = .tuple #[.slice x24.p x24.n x24.c, .int .i64 x25] ∧ (
  R (.tuple #[.slice x24.p x24.n x24.c, .int .i64 x25]) H19)))) (
  R (.tuple #[.slice none 0 0, .int .i64 (9 : Int)]) H17)

def F_hotplug_Slot_Handle_k3 (R : Value → Heap → Prop) (s : Addr) (x17 : Int) (x18 : Bool) (H13 : Heap) : Prop :=
  iteB x18 (
  CallsH Try.prog n_hotplug_Slot_enter #[.pointer (some s), .int .i64 (1 : Int), .slice none 0 0] H13 (fun v6 H14 =>
  ∃ x19 : Sl, ∃ x20 : Int, v6 = .tuple #[.slice x19.p x19.n x19.c, .int .i64 x20] ∧ (
  R (.tuple #[.slice x19.p x19.n x19.c, .int .i64 x20]) H14))) (
  iteB (x17 == (3 : Int)) (
  letH (H13.push (.cells #[.int .i64 (2 : Int)] t_int (0, 0))) (fun H15 : Heap =>
  CallsH Try.prog n_hotplug_Slot_enter #[.pointer (some s), .int .i64 (1 : Int), .slice (some (⟨H13.size, 0, none⟩ : Addr)) 1 1] H15 (fun v7 H16 =>
  ∃ x21 : Sl, ∃ x22 : Int, v7 = .tuple #[.slice x21.p x21.n x21.c, .int .i64 x22] ∧ (
  R (.tuple #[.slice x21.p x21.n x21.c, .int .i64 x22]) H16)))) (
  ∃ J_2 : Bool → Heap → Prop, (
  iteB (x17 == (4 : Int)) (
  J_2 true H13) (
  J_2 (x17 == (5 : Int)) H13)) ∧ (∀ x23 : Bool, ∀ H17 : Heap, J_2 x23 H17 → F_hotplug_Slot_Handle_k2 R s x23 H17)))

def F_hotplug_Slot_Handle_k4 (R : Value → Heap → Prop) (s : Addr) (x29 : Bool) (H22 : Heap) : Prop :=
  iteB x29 (
  letH (H22.push (.cells #[.int .i64 (5 : Int), .int .i64 (2 : Int)] t_int (0, 0))) (fun H23 : Heap =>
  CallsH Try.prog n_hotplug_Slot_enter #[.pointer (some s), .int .i64 (6 : Int), .slice (some (⟨H22.size, 0, none⟩ : Addr)) 2 2] H23 (fun v10 H24 =>
  ∃ x30 : Sl, ∃ x31 : Int, v10 = .tuple #[.slice x30.p x30.n x30.c, .int .i64 x31] ∧ (
  R (.tuple #[.slice x30.p x30.n x30.c, .int .i64 x31]) H24)))) (
  R (.tuple #[.slice none 0 0, .int .i64 (9 : Int)]) H22)

def F_hotplug_Slot_Handle (R : Value → Heap → Prop) (s : Addr) (event : Int) (now : Int) (H : Heap) : Prop :=
  iteB (event == (1 : Int)) (
  ∃ x : Int, rd H s = some (.int .i64 x) ∧ (
  iteB (x == (1 : Int)) (
  CallsH Try.prog n_hotplug_Slot_enter #[.pointer (some s), .int .i64 (2 : Int), .slice none 0 0] H (fun v H1 =>
  ∃ x1 : Sl, ∃ x2 : Int, v = .tuple #[.slice x1.p x1.n x1.c, .int .i64 x2] ∧ (
  R (.tuple #[.slice x1.p x1.n x1.c, .int .i64 x2]) H1))) (
  R (.tuple #[.slice none 0 0, .int .i64 (9 : Int)]) H))) (
  iteB (event == (3 : Int)) (
  ∃ x3 : Int, rd H s = some (.int .i64 x3) ∧ (
  ∃ J_ : Bool → Heap → Prop, (
  iteB (x3 == (2 : Int)) (
  J_ true H) (
  J_ (x3 == (6 : Int)) H)) ∧ (∀ x4 : Bool, ∀ H2 : Heap, J_ x4 H2 → F_hotplug_Slot_Handle_k1 R s now x4 H2))) (
  iteB (event == (4 : Int)) (
  ∃ x9 : Int, rd H s = some (.int .i64 x9) ∧ (
  iteB (x9 == (4 : Int)) (
  letH (H.push (.cells #[.int .i64 (4 : Int)] t_int (0, 0))) (fun H7 : Heap =>
  CallsH Try.prog n_hotplug_Slot_enter #[.pointer (some s), .int .i64 (5 : Int), .slice (some (⟨H.size, 0, none⟩ : Addr)) 1 1] H7 (fun v3 H8 =>
  ∃ x10 : Sl, ∃ x11 : Int, v3 = .tuple #[.slice x10.p x10.n x10.c, .int .i64 x11] ∧ (
  R (.tuple #[.slice x10.p x10.n x10.c, .int .i64 x11]) H8)))) (
  iteB (x9 == (3 : Int)) (
  letH (H.push (.cells #[.int .i64 (2 : Int)] t_int (0, 0))) (fun H9 : Heap =>
  CallsH Try.prog n_hotplug_Slot_enter #[.pointer (some s), .int .i64 (2 : Int), .slice (some (⟨H.size, 0, none⟩ : Addr)) 1 1] H9 (fun v4 H10 =>
  ∃ x12 : Sl, ∃ x13 : Int, v4 = .tuple #[.slice x12.p x12.n x12.c, .int .i64 x13] ∧ (
  R (.tuple #[.slice x12.p x12.n x12.c, .int .i64 x13]) H10)))) (
  R (.tuple #[.slice none 0 0, .int .i64 (9 : Int)]) H)))) (
  iteB (event == (5 : Int)) (
  ∃ x14 : Int, rd H s = some (.int .i64 x14) ∧ (
  iteB (x14 == (5 : Int)) (
  letH (H.push (.cells #[.int .i64 (5 : Int), .int .i64 (2 : Int)] t_int (0, 0))) (fun H11 : Heap =>
  CallsH Try.prog n_hotplug_Slot_enter #[.pointer (some s), .int .i64 (2 : Int), .slice (some (⟨H.size, 0, none⟩ : Addr)) 2 2] H11 (fun v5 H12 =>
  ∃ x15 : Sl, ∃ x16 : Int, v5 = .tuple #[.slice x15.p x15.n x15.c, .int .i64 x16] ∧ (
  R (.tuple #[.slice x15.p x15.n x15.c, .int .i64 x16]) H12)))) (
  R (.tuple #[.slice none 0 0, .int .i64 (9 : Int)]) H))) (
  iteB (event == (2 : Int)) (
  ∃ x17 : Int, rd H s = some (.int .i64 x17) ∧ (
  ∃ J_1 : Bool → Heap → Prop, (
  iteB (x17 == (2 : Int)) (
  J_1 true H) (
  J_1 (x17 == (6 : Int)) H)) ∧ (∀ x18 : Bool, ∀ H13 : Heap, J_1 x18 H13 → F_hotplug_Slot_Handle_k3 R s x17 x18 H13))) (
  iteB (event == (6 : Int)) (
  ∃ x26 : Int, rd H s = some (.int .i64 x26) ∧ (
  iteB (x26 == (3 : Int)) (
  letH (H.push (.cells #[.int .i64 (2 : Int)] t_int (0, 0))) (fun H20 : Heap =>
  CallsH Try.prog n_hotplug_Slot_enter #[.pointer (some s), .int .i64 (6 : Int), .slice (some (⟨H.size, 0, none⟩ : Addr)) 1 1] H20 (fun v9 H21 =>
  ∃ x27 : Sl, ∃ x28 : Int, v9 = .tuple #[.slice x27.p x27.n x27.c, .int .i64 x28] ∧ (
  R (.tuple #[.slice x27.p x27.n x27.c, .int .i64 x28]) H21)))) (
  ∃ J_3 : Bool → Heap → Prop, (
  iteB (x26 == (4 : Int)) (
  J_3 true H) (
  J_3 (x26 == (5 : Int)) H)) ∧ (∀ x29 : Bool, ∀ H22 : Heap, J_3 x29 H22 → F_hotplug_Slot_Handle_k4 R s x29 H22)))) (
  R (.tuple #[.slice none 0 0, .int .i64 (1 : Int)]) H))))))

theorem F_hotplug_Slot_Handle_eq (R : Value → Heap → Prop) (s : Addr) (event : Int) (now : Int) (H : Heap) : wpF Try.prog Try.f35 [(26, .bool false), (81, .bool false), (95, .bool false), (116, .bool false)] [(10, [26], [0, 2]), (25, [81], [0, 80]), (30, [95], [0]), (37, [116], [0])] [] [20] [.pointer (some s), .int .i64 event, .int .u64 now] H R = F_hotplug_Slot_Handle R s event now H := by kernel_rfl

theorem F_hotplug_Slot_Handle_ok {R : Value → Heap → Prop} (s : Addr) (event : Int) (now : Int) {H : Heap} (h : F_hotplug_Slot_Handle R s event now H) : CallsH Try.prog n_hotplug_Slot_Handle #[.pointer (some s), .int .i64 event, .int .u64 now] H R :=
  wpF_ok Try.func35 (F_hotplug_Slot_Handle_eq R s event now H) h

/-! ### 36: (*platformfw/hotplug.Slot).Advance -/

def F_hotplug_Slot_Advance (R : Value → Heap → Prop) (s : Addr) (now : Int) (H : Heap) : Prop :=
  ∃ x : Int, rd H s = some (.int .i64 x) ∧ (
  iteB (x != (3 : Int)) (
  R (.slice none 0 0) H) (
  ∃ x1 : Int, rd H (s.add 2) = some (.int .u64 x1) ∧ (
  iteB (decide (now < x1)) (
  R (.slice none 0 0) H) (
  letH (H.push (.cells #[.int .i64 (3 : Int)] t_int (0, 0))) (fun H1 : Heap =>
  CallsH Try.prog n_hotplug_Slot_enter #[.pointer (some s), .int .i64 (4 : Int), .slice (some (⟨H.size, 0, none⟩ : Addr)) 1 1] H1 (fun v H2 =>
  ∃ x2 : Sl, ∃ x3 : Int, v = .tuple #[.slice x2.p x2.n x2.c, .int .i64 x3] ∧ (
  R (.slice x2.p x2.n x2.c) H2)))))))

theorem F_hotplug_Slot_Advance_eq (R : Value → Heap → Prop) (s : Addr) (now : Int) (H : Heap) : wpF Try.prog Try.f36 [] [] [] [20] [.pointer (some s), .int .u64 now] H R = F_hotplug_Slot_Advance R s now H := by kernel_rfl

theorem F_hotplug_Slot_Advance_ok {R : Value → Heap → Prop} (s : Addr) (now : Int) {H : Heap} (h : F_hotplug_Slot_Advance R s now H) : CallsH Try.prog n_hotplug_Slot_Advance #[.pointer (some s), .int .u64 now] H R :=
  wpF_ok Try.func36 (F_hotplug_Slot_Advance_eq R s now H) h

/-! ### 37: (*platformfw/hotplug.Slot).State -/

def F_hotplug_Slot_State (R : Value → Heap → Prop) (s : Addr) (H : Heap) : Prop :=
  ∃ x : Int, rd H s = some (.int .i64 x) ∧ (
  R (.int .i64 x) H)

theorem F_hotplug_Slot_State_eq (R : Value → Heap → Prop) (s : Addr) (H : Heap) : wpF Try.prog Try.f37 [] [] [] [20] [.pointer (some s)] H R = F_hotplug_Slot_State R s H := by kernel_rfl

theorem F_hotplug_Slot_State_ok {R : Value → Heap → Prop} (s : Addr) {H : Heap} (h : F_hotplug_Slot_State R s H) : CallsH Try.prog n_hotplug_Slot_State #[.pointer (some s)] H R :=
  wpF_ok Try.func37 (F_hotplug_Slot_State_eq R s H) h

/-! ### 38: platformfw/platformfwhelp.Equal[platformfw/api.Bar] -/

def F_help_Equal_api_Bar_r1 (R : Value → Heap → Prop) (a : Sl) (b : Sl) (I_ : Int → Heap → Prop) (M_ : Int → Heap → Nat) (i : Int) (H1 : Heap) : Prop :=
  iteB (decide (i < (a.n : Int))) (
  0 ≤ i ∧ i < (a.n : Int) ∧ (unSome a.p (fun a1 =>
  ∃ x : Int, rd H1 (a1.add (i.toNat * 2)) = some (.int .i64 x) ∧ ∃ x1 : Int, rd H1 ((a1.add (i.toNat * 2)).add 1) = some (.int .i64 x1) ∧ (
  0 ≤ i ∧ i < (b.n : Int) ∧ (unSome b.p (fun a2 =>
  ∃ x2 : Int, rd H1 (a2.add (i.toNat * 2)) = some (.int .i64 x2) ∧ ∃ x3 : Int, rd H1 ((a2.add (i.toNat * 2)).add 1) = some (.int .i64 x3) ∧ (
  iteB (!((x == x2) && ((x1 == x3) && true))) (
  R (.bool false) H1) (
  letV (IntKind.i64.wrap (i + (1 : Int))) (fun i1 : Int =>
  I_ i1 H1 ∧ M_ i1 H1 < M_ i H1))))))))) (
  R (.bool true) H1)

def F_help_Equal_api_Bar (R : Value → Heap → Prop) (a : Sl) (b : Sl) (H : Heap) : Prop :=
  iteB ((a.n : Int) != (b.n : Int)) (
  R (.bool false) H) (
  ∃ I_ : Int → Heap → Prop, ∃ M_ : Int → Heap → Nat, I_ (0 : Int) H ∧ (∀ i : Int, ∀ H1 : Heap, I_ i H1 → F_help_Equal_api_Bar_r1 R a b I_ M_ i H1))

theorem F_help_Equal_api_Bar_eq (R : Value → Heap → Prop) (a : Sl) (b : Sl) (H : Heap) : wpF Try.prog Try.f38 [(5, .int .i64 0)] [] [(4, [5], [0, 1])] [20] [.slice a.p a.n a.c, .slice b.p b.n b.c] H R = F_help_Equal_api_Bar R a b H := by kernel_rfl

theorem F_help_Equal_api_Bar_ok {R : Value → Heap → Prop} (a : Sl) (b : Sl) {H : Heap} (h : F_help_Equal_api_Bar R a b H) : CallsH Try.prog n_help_Equal_api_Bar #[.slice a.p a.n a.c, .slice b.p b.n b.c] H R :=
  wpF_ok Try.func38 (F_help_Equal_api_Bar_eq R a b H) h

/-! ### 39: platformfw/platformfwref18.Below -/

def F_ref18_Below_k1 (I_1 : Sl → Int → Heap → Prop) (M_1 : Sl → Int → Heap → Nat) (out1 : Sl) (i : Int) (H2 : Heap) (x2 : Bool) (H3 : Heap) : Prop :=
  iteB x2 (
  letH (H3.push (.cells #[.int .i64 i] t_int (0, 0))) (fun H4 : Heap =>
  runH Try.prog (Builtin.append_ #[t_sl_int, t_sl_int] t_sl_int #[.slice out1.p out1.n out1.c, .slice (some (⟨H3.size, 0, none⟩ : Addr)) 1 1]) H4 (fun v H5 =>
  ∃ out2 : Sl, v = .slice out2.p out2.n out2.c ∧ (
  letV (IntKind.i64.wrap (i + (1 : Int))) (fun i1 : Int =>
  I_1 out2 i1 H5 ∧ M_1 out2 i1 H5 < M_1 out1 i H2))))) (
  letV (IntKind.i64.wrap (i + (1 : Int))) (fun i2 : Int =>
  I_1 out1 i2 H3 ∧ M_1 out1 i2 H3 < M_1 out1 i H2))

def F_ref18_Below_r2 (l : Sl) (parent : Int) (I_ : Sl → Int → Heap → Prop) (M_ : Sl → Int → Heap → Nat) (out : Sl) (slot : Int) (H1 : Heap) (I_1 : Sl → Int → Heap → Prop) (M_1 : Sl → Int → Heap → Nat) (out1 : Sl) (i : Int) (H2 : Heap) : Prop :=
  iteB (decide (i < (l.n : Int))) (
  ∃ J_ : Bool → Heap → Prop, (
  0 ≤ i ∧ i < (l.n : Int) ∧ (unSome l.p (fun a =>
  ∃ x : Int, rd H2 (a.add (i.toNat * 11)) = some (.int .i64 x) ∧ (
  iteB (x == parent) (
  0 ≤ i ∧ i < (l.n : Int) ∧ (unSome l.p (fun a1 =>
  ∃ x1 : Int, rd H2 ((a1.add (i.toNat * 11)).add 1) = some (.int .i64 x1) ∧ (
  J_ (x1 == slot) H2)))) (
  J_ false H2))))) ∧ (∀ x2 : Bool, ∀ H3 : Heap, J_ x2 H3 → F_ref18_Below_k1 I_1 M_1 out1 i H2 x2 H3)) (
  letV (IntKind.i64.wrap (slot + (1 : Int))) (fun slot1 : Int =>
  I_ out1 slot1 H2 ∧ M_ out1 slot1 H2 < M_ out slot H1))

def F_ref18_Below_r3 (R : Value → Heap → Prop) (l : Sl) (parent : Int) (I_ : Sl → Int → Heap → Prop) (M_ : Sl → Int → Heap → Nat) (out : Sl) (slot : Int) (H1 : Heap) : Prop :=
  iteB (decide (slot < (32 : Int))) (
  ∃ I_1 : Sl → Int → Heap → Prop, ∃ M_1 : Sl → Int → Heap → Nat, I_1 out (0 : Int) H1 ∧ (∀ out1 : Sl, ∀ i : Int, ∀ H2 : Heap, I_1 out1 i H2 → F_ref18_Below_r2 l parent I_ M_ out slot H1 I_1 M_1 out1 i H2)) (
  R (.slice out.p out.n out.c) H1)

def F_ref18_Below (R : Value → Heap → Prop) (l : Sl) (parent : Int) (H : Heap) : Prop :=
  ∃ I_ : Sl → Int → Heap → Prop, ∃ M_ : Sl → Int → Heap → Nat, I_ (Sl.mk none 0 0) (0 : Int) H ∧ (∀ out : Sl, ∀ slot : Int, ∀ H1 : Heap, I_ out slot H1 → F_ref18_Below_r3 R l parent I_ M_ out slot H1)

theorem F_ref18_Below_eq (R : Value → Heap → Prop) (l : Sl) (parent : Int) (H : Heap) : wpF Try.prog Try.f39 [(5, .slice none 0 0), (6, .int .i64 0), (7, .int .i64 0), (33, .bool false)] [(9, [33], [0, 1, 5, 6, 7])] [(3, [5, 6], [0, 1]), (6, [5, 7], [0, 1, 6])] [20] [.slice l.p l.n l.c, .int .i64 parent] H R = F_ref18_Below R l parent H := by kernel_rfl

theorem F_ref18_Below_ok {R : Value → Heap → Prop} (l : Sl) (parent : Int) {H : Heap} (h : F_ref18_Below R l parent H) : CallsH Try.prog n_ref18_Below #[.slice l.p l.n l.c, .int .i64 parent] H R :=
  wpF_ok Try.func39 (F_ref18_Below_eq R l parent H) h

/-! ### 40: platformfw/platformfwref18.ValidFunction -/

def F_ref18_ValidFunction_k1 (R : Value → Heap → Prop) (H : Heap) (I_ : Int → Heap → Prop) (M_ : Int → Heap → Nat) (i : Int) (H4 : Heap) (x46 : Bool) (H7 : Heap) : Prop :=
  iteB x46 (
  ∃ x47 : Int, rd H7 ((⟨H4.size, 0, none⟩ : Addr).add 1) = some (.int .i64 x47) ∧ (
  iteB (decide (x47 < (4 : Int))) (
  R (.bool false) H7) (
  ∃ x48 : Int, rd H7 ((⟨H4.size, 0, none⟩ : Addr).add 1) = some (.int .i64 x48) ∧ (
  iteB (decide (x48 > (40 : Int))) (
  R (.bool false) H7) (
  ∃ x49 : Sl, rd H7 ((⟨H.size, 0, none⟩ : Addr).add 10) = some (.slice x49.p x49.n x49.c) ∧ (
  iteB (decide ((IntKind.i64.wrap (i + (1 : Int))) ≥ (x49.n : Int))) (
  R (.bool false) H7) (
  ∃ x50 : Sl, rd H7 ((⟨H.size, 0, none⟩ : Addr).add 10) = some (.slice x50.p x50.n x50.c) ∧ (
  0 ≤ (IntKind.i64.wrap (i + (1 : Int))) ∧ (IntKind.i64.wrap (i + (1 : Int))) < (x50.n : Int) ∧ (unSome x50.p (fun a1 =>
  ∃ x51 : Int, rd H7 (a1.add ((IntKind.i64.wrap (i + (1 : Int))).toNat * 2)) = some (.int .i64 x51) ∧ (
  iteB (x51 != (0 : Int)) (
  R (.bool false) H7) (
  letV (IntKind.i64.wrap (i + (1 : Int))) (fun i4 : Int =>
  I_ i4 H7 ∧ M_ i4 H7 < M_ i H4))))))))))))) (
  R (.bool false) H7)

def F_ref18_ValidFunction_r2 (R : Value → Heap → Prop) (H : Heap) (I_ : Int → Heap → Prop) (M_ : Int → Heap → Nat) (i : Int) (H4 : Heap) : Prop :=
  ∃ x36 : Sl, rd H4 ((⟨H.size, 0, none⟩ : Addr).add 10) = some (.slice x36.p x36.n x36.c) ∧ (
  iteB (decide (i < (x36.n : Int))) (
  ∃ x37 : Sl, rd H4 ((⟨H.size, 0, none⟩ : Addr).add 10) = some (.slice x37.p x37.n x37.c) ∧ (
  0 ≤ i ∧ i < (x37.n : Int) ∧ (unSome x37.p (fun a =>
  ∃ x38 : Int, rd H4 (a.add (i.toNat * 2)) = some (.int .i64 x38) ∧ ∃ x39 : Int, rd H4 ((a.add (i.toNat * 2)).add 1) = some (.int .i64 x39) ∧ (
  letH (H4.push (.cells #[.int .i64 (0 : Int), .int .i64 (0 : Int)] t_api_Bar (0, 0))) (fun H5 : Heap =>
  okRow H5 (⟨H4.size, 0, none⟩ : Addr) 2 ∧ (
  letH (wrs H5 (⟨H4.size, 0, none⟩ : Addr) [.int .i64 x38, .int .i64 x39]) (fun H6 : Heap =>
  ∃ x40 : Int, rd H6 (⟨H4.size, 0, none⟩ : Addr) = some (.int .i64 x40) ∧ (
  iteB (x40 == (0 : Int)) (
  ∃ x41 : Int, rd H6 ((⟨H4.size, 0, none⟩ : Addr).add 1) = some (.int .i64 x41) ∧ (
  iteB (x41 != (0 : Int)) (
  R (.bool false) H6) (
  letV (IntKind.i64.wrap (i + (1 : Int))) (fun i1 : Int =>
  I_ i1 H6 ∧ M_ i1 H6 < M_ i H4)))) (
  iteB (x40 == (1 : Int)) (
  ∃ x42 : Int, rd H6 ((⟨H4.size, 0, none⟩ : Addr).add 1) = some (.int .i64 x42) ∧ (
  iteB (decide (x42 < (2 : Int))) (
  R (.bool false) H6) (
  ∃ x43 : Int, rd H6 ((⟨H4.size, 0, none⟩ : Addr).add 1) = some (.int .i64 x43) ∧ (
  iteB (decide (x43 > (8 : Int))) (
  R (.bool false) H6) (
  letV (IntKind.i64.wrap (i + (1 : Int))) (fun i2 : Int =>
  I_ i2 H6 ∧ M_ i2 H6 < M_ i H4)))))) (
  iteB (x40 == (2 : Int)) (
  ∃ x44 : Int, rd H6 ((⟨H4.size, 0, none⟩ : Addr).add 1) = some (.int .i64 x44) ∧ (
  iteB (decide (x44 < (4 : Int))) (
  R (.bool false) H6) (
  ∃ x45 : Int, rd H6 ((⟨H4.size, 0, none⟩ : Addr).add 1) = some (.int .i64 x45) ∧ (
  iteB (decide (x45 > (31 : Int))) (
  R (.bool false) H6) (
  letV (IntKind.i64.wrap (i + (1 : Int))) (fun i3 : Int =>
  I_ i3 H6 ∧ M_ i3 H6 < M_ i H4)))))) (
  ∃ J_1 : Bool → Heap → Prop, (
  iteB (x40 == (3 : Int)) (
  J_1 true H6) (
  J_1 (x40 == (4 : Int)) H6)) ∧ (∀ x46 : Bool, ∀ H7 : Heap, J_1 x46 H7 → F_ref18_ValidFunction_k1 R H I_ M_ i H4 x46 H7))))))))))))) (
  R (.bool true) H4))

def F_ref18_ValidFunction_k3 (R : Value → Heap → Prop) (H : Heap) (H2 : Heap) : Prop :=
  ∃ x23 : Sl, rd H2 ((⟨H.size, 0, none⟩ : Addr).add 10) = some (.slice x23.p x23.n x23.c) ∧ (
  ∃ x24 : Int, rd H2 (⟨H.size, 0, none⟩ : Addr) = some (.int .i64 x24) ∧ ∃ x25 : Int, rd H2 ((⟨H.size, 0, none⟩ : Addr).add 1) = some (.int .i64 x25) ∧ ∃ x26 : Int, rd H2 ((⟨H.size, 0, none⟩ : Addr).add 2) = some (.int .i64 x26) ∧ ∃ x27 : Int, rd H2 ((⟨H.size, 0, none⟩ : Addr).add 3) = some (.int .i64 x27) ∧ ∃ x28 : Bool, rd H2 ((⟨H.size, 0, none⟩ : Addr).add 4) = some (.bool x28) ∧ ∃ x29 : Bool, rd H2 ((⟨H.size, 0, none⟩ : Addr).add 5) = some (.bool x29) ∧ ∃ x30 : Bool, rd H2 ((⟨H.size, 0, none⟩ : Addr).add 6) = some (.bool x30) ∧ ∃ x31 : Int, rd H2 ((⟨H.size, 0, none⟩ : Addr).add 7) = some (.int .i64 x31) ∧ ∃ x32 : Int, rd H2 ((⟨H.size, 0, none⟩ : Addr).add 8) = some (.int .i64 x32) ∧ ∃ x33 : Int, rd H2 ((⟨H.size, 0, none⟩ : Addr).add 9) = some (.int .i64 x33) ∧ ∃ x34 : Sl, rd H2 ((⟨H.size, 0, none⟩ : Addr).add 10) = some (.slice x34.p x34.n x34.c) ∧ (
  CallsH Try.prog n_ref18_Registers #[.agg #[.int .i64 x24, .int .i64 x25, .int .i64 x26, .int .i64 x27, .bool x28, .bool x29, .bool x30, .int .i64 x31, .int .i64 x32, .int .i64 x33, .slice x34.p x34.n x34.c]] H2 (fun v H3 =>
  ∃ x35 : Int, v = .int .i64 x35 ∧ (
  Keeps H2 H3 [(((⟨H.size, 0, none⟩ : Addr).add 10), 1)] ∧ (
  iteB (decide ((x23.n : Int) > x35)) (
  R (.bool false) H3) (
  ∃ I_ : Int → Heap → Prop, ∃ M_ : Int → Heap → Nat, I_ (0 : Int) H3 ∧ (∀ i : Int, ∀ H4 : Heap, I_ i H4 → F_ref18_ValidFunction_r2 R H I_ M_ i H4)))))))

def F_ref18_ValidFunction (R : Value → Heap → Prop) (f_0 : Int) (f_1 : Int) (f_2 : Int) (f_3 : Int) (f_4 : Bool) (f_5 : Bool) (f_6 : Bool) (f_7 : Int) (f_8 : Int) (f_9 : Int) (f_10 : Sl) (H : Heap) : Prop :=
  letH (H.push (.cells #[.int .i64 f_0, .int .i64 f_1, .int .i64 f_2, .int .i64 f_3, .bool f_4, .bool f_5, .bool f_6, .int .i64 f_7, .int .i64 f_8, .int .i64 f_9, .slice f_10.p f_10.n f_10.c] t_api_Function (0, 0))) (fun H1 : Heap =>
  ∃ x : Int, rd H1 ((⟨H.size, 0, none⟩ : Addr).add 2) = some (.int .i64 x) ∧ (
  iteB (decide (x < (1 : Int))) (
  R (.bool false) H1) (
  ∃ x1 : Int, rd H1 ((⟨H.size, 0, none⟩ : Addr).add 2) = some (.int .i64 x1) ∧ (
  iteB (decide (x1 > (65534 : Int))) (
  R (.bool false) H1) (
  ∃ x2 : Int, rd H1 ((⟨H.size, 0, none⟩ : Addr).add 3) = some (.int .i64 x2) ∧ (
  iteB (decide (x2 < (0 : Int))) (
  R (.bool false) H1) (
  ∃ x3 : Int, rd H1 ((⟨H.size, 0, none⟩ : Addr).add 3) = some (.int .i64 x3) ∧ (
  iteB (decide (x3 > (65535 : Int))) (
  R (.bool false) H1) (
  ∃ x4 : Int, rd H1 ((⟨H.size, 0, none⟩ : Addr).add 1) = some (.int .i64 x4) ∧ (
  iteB (decide (x4 < (0 : Int))) (
  R (.bool false) H1) (
  ∃ x5 : Int, rd H1 ((⟨H.size, 0, none⟩ : Addr).add 1) = some (.int .i64 x5) ∧ (
  iteB (decide (x5 > (31 : Int))) (
  R (.bool false) H1) (
  ∃ x6 : Int, rd H1 ((⟨H.size, 0, none⟩ : Addr).add 8) = some (.int .i64 x6) ∧ (
  iteB (decide (x6 < (0 : Int))) (
  R (.bool false) H1) (
  ∃ x7 : Int, rd H1 ((⟨H.size, 0, none⟩ : Addr).add 8) = some (.int .i64 x7) ∧ (
  iteB (decide (x7 > (4 : Int))) (
  R (.bool false) H1) (
  ∃ x8 : Int, rd H1 ((⟨H.size, 0, none⟩ : Addr).add 7) = some (.int .i64 x8) ∧ (
  iteB (decide (x8 < (0 : Int))) (
  R (.bool false) H1) (
  ∃ x9 : Int, rd H1 ((⟨H.size, 0, none⟩ : Addr).add 7) = some (.int .i64 x9) ∧ (
  iteB (decide (x9 > (32 : Int))) (
  R (.bool false) H1) (
  ∃ J_ : Heap → Prop, (
  ∃ x10 : Int, rd H1 ((⟨H.size, 0, none⟩ : Addr).add 9) = some (.int .i64 x10) ∧ (
  iteB (decide (x10 < (0 : Int))) (
  R (.bool false) H1) (
  ∃ x11 : Int, rd H1 ((⟨H.size, 0, none⟩ : Addr).add 9) = some (.int .i64 x11) ∧ (
  iteB (decide (x11 > (32 : Int))) (
  R (.bool false) H1) (
  ∃ x12 : Int, rd H1 ((⟨H.size, 0, none⟩ : Addr).add 9) = some (.int .i64 x12) ∧ (
  ∃ x13 : Int, rd H1 ((⟨H.size, 0, none⟩ : Addr).add 9) = some (.int .i64 x13) ∧ (
  iteB ((bitsAnd .i64 x12 (IntKind.i64.wrap (x13 - (1 : Int)))) != (0 : Int)) (
  R (.bool false) H1) (
  ∃ x14 : Int, rd H1 ((⟨H.size, 0, none⟩ : Addr).add 7) = some (.int .i64 x14) ∧ (
  iteB (decide (x14 > (0 : Int))) (
  ∃ x15 : Bool, rd H1 ((⟨H.size, 0, none⟩ : Addr).add 4) = some (.bool x15) ∧ (
  iteB (!x15) (
  R (.bool false) H1) (
  ∃ x16 : Bool, rd H1 ((⟨H.size, 0, none⟩ : Addr).add 6) = some (.bool x16) ∧ (
  iteB (!x16) (
  R (.bool false) H1) (
  ∃ x17 : Bool, rd H1 ((⟨H.size, 0, none⟩ : Addr).add 4) = some (.bool x17) ∧ (
  iteB (!x17) (
  ∃ x18 : Bool, rd H1 ((⟨H.size, 0, none⟩ : Addr).add 5) = some (.bool x18) ∧ (
  iteB x18 (
  R (.bool false) H1) (
  ∃ x19 : Bool, rd H1 ((⟨H.size, 0, none⟩ : Addr).add 6) = some (.bool x19) ∧ (
  iteB x19 (
  R (.bool false) H1) (
  J_ H1))))) (
  J_ H1))))))) (
  ∃ x20 : Bool, rd H1 ((⟨H.size, 0, none⟩ : Addr).add 4) = some (.bool x20) ∧ (
  iteB (!x20) (
  ∃ x21 : Bool, rd H1 ((⟨H.size, 0, none⟩ : Addr).add 5) = some (.bool x21) ∧ (
  iteB x21 (
  R (.bool false) H1) (
  ∃ x22 : Bool, rd H1 ((⟨H.size, 0, none⟩ : Addr).add 6) = some (.bool x22) ∧ (
  iteB x22 (
  R (.bool false) H1) (
  J_ H1))))) (
  J_ H1)))))))))))) ∧ (∀ H2 : Heap, J_ H2 → F_ref18_ValidFunction_k3 R H H2))))))))))))))))))))))

theorem F_ref18_ValidFunction_eq (R : Value → Heap → Prop) (f_0 : Int) (f_1 : Int) (f_2 : Int) (f_3 : Int) (f_4 : Bool) (f_5 : Bool) (f_6 : Bool) (f_7 : Int) (f_8 : Int) (f_9 : Int) (f_10 : Sl) (H : Heap) : wpF Try.prog Try.f40 [(3, .int .i64 0), (143, .bool false)] [(5, [], [1]), (24, [143], [1, 3, 4])] [(8, [3], [1])] [20] [.agg #[.int .i64 f_0, .int .i64 f_1, .int .i64 f_2, .int .i64 f_3, .bool f_4, .bool f_5, .bool f_6, .int .i64 f_7, .int .i64 f_8, .int .i64 f_9, .slice f_10.p f_10.n f_10.c]] H R = F_ref18_ValidFunction R f_0 f_1 f_2 f_3 f_4 f_5 f_6 f_7 f_8 f_9 f_10 H := by kernel_rfl

theorem F_ref18_ValidFunction_ok {R : Value → Heap → Prop} (f_0 : Int) (f_1 : Int) (f_2 : Int) (f_3 : Int) (f_4 : Bool) (f_5 : Bool) (f_6 : Bool) (f_7 : Int) (f_8 : Int) (f_9 : Int) (f_10 : Sl) {H : Heap} (h : F_ref18_ValidFunction R f_0 f_1 f_2 f_3 f_4 f_5 f_6 f_7 f_8 f_9 f_10 H) : CallsH Try.prog n_ref18_ValidFunction #[.agg #[.int .i64 f_0, .int .i64 f_1, .int .i64 f_2, .int .i64 f_3, .bool f_4, .bool f_5, .bool f_6, .int .i64 f_7, .int .i64 f_8, .int .i64 f_9, .slice f_10.p f_10.n f_10.c]] H R :=
  wpF_ok Try.func40 (F_ref18_ValidFunction_eq R f_0 f_1 f_2 f_3 f_4 f_5 f_6 f_7 f_8 f_9 f_10 H) h

/-! ### 41: platformfw/platformfwref21.within -/

def F_ref21_within_r1 (R : Value → Heap → Prop) (l : Sl) (fromv : Int) (to : Int) (I_ : Int → Heap → Prop) (M_ : Int → Heap → Nat) (i : Int) (H2 : Heap) : Prop :=
  iteB (decide (i < (l.n : Int))) (
  0 ≤ i ∧ i < (l.n : Int) ∧ (unSome l.p (fun a =>
  ∃ x1 : Int, rd H2 (a.add (i.toNat * 2)) = some (.int .u64 x1) ∧ (
  iteB (decide (x1 < fromv)) (
  R (.bool false) H2) (
  0 ≤ i ∧ i < (l.n : Int) ∧ (unSome l.p (fun a1 =>
  ∃ x2 : Int, rd H2 (a1.add (i.toNat * 2)) = some (.int .u64 x2) ∧ (
  0 ≤ i ∧ i < (l.n : Int) ∧ (unSome l.p (fun a2 =>
  ∃ x3 : Int, rd H2 ((a2.add (i.toNat * 2)).add 1) = some (.int .u64 x3) ∧ (
  iteB (decide ((IntKind.u64.wrap (x2 + x3)) > to)) (
  R (.bool false) H2) (
  letV (IntKind.i64.wrap (i + (1 : Int))) (fun i1 : Int =>
  I_ i1 H2 ∧ M_ i1 H2 < M_ i H2))))))))))))) (
  R (.bool true) H2)

def F_ref21_within (R : Value → Heap → Prop) (l : Sl) (fromv : Int) (to : Int) (H : Heap) : Prop :=
  iteB (decide ((l.n : Int) > (16 : Int))) (
  R (.bool false) H) (
  CallsH Try.prog n_ref21_ValidRanges #[.slice l.p l.n l.c] H (fun v H1 =>
  ∃ x : Bool, v = .bool x ∧ (
  iteB (!x) (
  R (.bool false) H1) (
  ∃ I_ : Int → Heap → Prop, ∃ M_ : Int → Heap → Nat, I_ (0 : Int) H1 ∧ (∀ i : Int, ∀ H2 : Heap, I_ i H2 → F_ref21_within_r1 R l fromv to I_ M_ i H2)))))

theorem F_ref21_within_eq (R : Value → Heap → Prop) (l : Sl) (fromv : Int) (to : Int) (H : Heap) : wpF Try.prog Try.f41 [(7, .int .i64 0)] [] [(4, [7], [0, 1, 2])] [20] [.slice l.p l.n l.c, .int .u64 fromv, .int .u64 to] H R = F_ref21_within R l fromv to H := by kernel_rfl

theorem F_ref21_within_ok {R : Value → Heap → Prop} (l : Sl) (fromv : Int) (to : Int) {H : Heap} (h : F_ref21_within R l fromv to H) : CallsH Try.prog n_ref21_within #[.slice l.p l.n l.c, .int .u64 fromv, .int .u64 to] H R :=
  wpF_ok Try.func41 (F_ref21_within_eq R l fromv to H) h

/-! ### 42: platformfw/platformfwref18.Class -/

def F_ref18_Class (R : Value → Heap → Prop) (l : Sl) (high : Bool) (i : Int) (k : Int) (H : Heap) : Prop :=
  CallsH Try.prog n_ref18_Valid #[.slice l.p l.n l.c] H (fun v H1 =>
  ∃ x : Bool, v = .bool x ∧ (
  iteB (!x) (
  R (.tuple #[.int .i64 (0 : Int), .bool false]) H1) (
  iteB (decide (i < (0 : Int))) (
  R (.tuple #[.int .i64 (0 : Int), .bool false]) H1) (
  iteB (decide (i ≥ (l.n : Int))) (
  R (.tuple #[.int .i64 (0 : Int), .bool false]) H1) (
  0 ≤ i ∧ i < (l.n : Int) ∧ (unSome l.p (fun a =>
  ∃ x1 : Int, rd H1 (a.add (i.toNat * 11)) = some (.int .i64 x1) ∧ ∃ x2 : Int, rd H1 ((a.add (i.toNat * 11)).add 1) = some (.int .i64 x2) ∧ ∃ x3 : Int, rd H1 ((a.add (i.toNat * 11)).add 2) = some (.int .i64 x3) ∧ ∃ x4 : Int, rd H1 ((a.add (i.toNat * 11)).add 3) = some (.int .i64 x4) ∧ ∃ x5 : Bool, rd H1 ((a.add (i.toNat * 11)).add 4) = some (.bool x5) ∧ ∃ x6 : Bool, rd H1 ((a.add (i.toNat * 11)).add 5) = some (.bool x6) ∧ ∃ x7 : Bool, rd H1 ((a.add (i.toNat * 11)).add 6) = some (.bool x7) ∧ ∃ x8 : Int, rd H1 ((a.add (i.toNat * 11)).add 7) = some (.int .i64 x8) ∧ ∃ x9 : Int, rd H1 ((a.add (i.toNat * 11)).add 8) = some (.int .i64 x9) ∧ ∃ x10 : Int, rd H1 ((a.add (i.toNat * 11)).add 9) = some (.int .i64 x10) ∧ ∃ x11 : Sl, rd H1 ((a.add (i.toNat * 11)).add 10) = some (.slice x11.p x11.n x11.c) ∧ (
  CallsH Try.prog n_ref18_bar #[.agg #[.int .i64 x1, .int .i64 x2, .int .i64 x3, .int .i64 x4, .bool x5, .bool x6, .bool x7, .int .i64 x8, .int .i64 x9, .int .i64 x10, .slice x11.p x11.n x11.c], .int .i64 k] H1 (fun v1 H2 =>
  ∃ x12 : Int, ∃ x13 : Int, v1 = .agg #[.int .i64 x12, .int .i64 x13] ∧ (
  iteB (x12 == (0 : Int)) (
  R (.tuple #[.int .i64 (0 : Int), .bool false]) H2) (
  0 ≤ i ∧ i < (l.n : Int) ∧ (unSome l.p (fun a1 =>
  ∃ x14 : Int, rd H2 (a1.add (i.toNat * 11)) = some (.int .i64 x14) ∧ ∃ x15 : Int, rd H2 ((a1.add (i.toNat * 11)).add 1) = some (.int .i64 x15) ∧ ∃ x16 : Int, rd H2 ((a1.add (i.toNat * 11)).add 2) = some (.int .i64 x16) ∧ ∃ x17 : Int, rd H2 ((a1.add (i.toNat * 11)).add 3) = some (.int .i64 x17) ∧ ∃ x18 : Bool, rd H2 ((a1.add (i.toNat * 11)).add 4) = some (.bool x18) ∧ ∃ x19 : Bool, rd H2 ((a1.add (i.toNat * 11)).add 5) = some (.bool x19) ∧ ∃ x20 : Bool, rd H2 ((a1.add (i.toNat * 11)).add 6) = some (.bool x20) ∧ ∃ x21 : Int, rd H2 ((a1.add (i.toNat * 11)).add 7) = some (.int .i64 x21) ∧ ∃ x22 : Int, rd H2 ((a1.add (i.toNat * 11)).add 8) = some (.int .i64 x22) ∧ ∃ x23 : Int, rd H2 ((a1.add (i.toNat * 11)).add 9) = some (.int .i64 x23) ∧ ∃ x24 : Sl, rd H2 ((a1.add (i.toNat * 11)).add 10) = some (.slice x24.p x24.n x24.c) ∧ (
  CallsH Try.prog n_ref18_bar #[.agg #[.int .i64 x14, .int .i64 x15, .int .i64 x16, .int .i64 x17, .bool x18, .bool x19, .bool x20, .int .i64 x21, .int .i64 x22, .int .i64 x23, .slice x24.p x24.n x24.c], .int .i64 k] H2 (fun v2 H3 =>
  ∃ x25 : Int, ∃ x26 : Int, v2 = .agg #[.int .i64 x25, .int .i64 x26] ∧ (
  iteB (x25 == (1 : Int)) (
  R (.tuple #[.int .i64 (0 : Int), .bool true]) H3) (
  0 ≤ i ∧ i < (l.n : Int) ∧ (unSome l.p (fun a2 =>
  ∃ x27 : Int, rd H3 (a2.add (i.toNat * 11)) = some (.int .i64 x27) ∧ ∃ x28 : Int, rd H3 ((a2.add (i.toNat * 11)).add 1) = some (.int .i64 x28) ∧ ∃ x29 : Int, rd H3 ((a2.add (i.toNat * 11)).add 2) = some (.int .i64 x29) ∧ ∃ x30 : Int, rd H3 ((a2.add (i.toNat * 11)).add 3) = some (.int .i64 x30) ∧ ∃ x31 : Bool, rd H3 ((a2.add (i.toNat * 11)).add 4) = some (.bool x31) ∧ ∃ x32 : Bool, rd H3 ((a2.add (i.toNat * 11)).add 5) = some (.bool x32) ∧ ∃ x33 : Bool, rd H3 ((a2.add (i.toNat * 11)).add 6) = some (.bool x33) ∧ ∃ x34 : Int, rd H3 ((a2.add (i.toNat * 11)).add 7) = some (.int .i64 x34) ∧ ∃ x35 : Int, rd H3 ((a2.add (i.toNat * 11)).add 8) = some (.int .i64 x35) ∧ ∃ x36 : Int, rd H3 ((a2.add (i.toNat * 11)).add 9) = some (.int .i64 x36) ∧ ∃ x37 : Sl, rd H3 ((a2.add (i.toNat * 11)).add 10) = some (.slice x37.p x37.n x37.c) ∧ (
  CallsH Try.prog n_ref18_bar #[.agg #[.int .i64 x27, .int .i64 x28, .int .i64 x29, .int .i64 x30, .bool x31, .bool x32, .bool x33, .int .i64 x34, .int .i64 x35, .int .i64 x36, .slice x37.p x37.n x37.c], .int .i64 k] H3 (fun v3 H4 =>
  ∃ x38 : Int, ∃ x39 : Int, v3 = .agg #[.int .i64 x38, .int .i64 x39] ∧ (
  iteB (x38 == (4 : Int)) (
  iteB high (
  CallsH Try.prog n_ref18_above #[.slice l.p l.n l.c, .int .i64 i] H4 (fun v4 H5 =>
  ∃ x40 : Bool, v4 = .bool x40 ∧ (
  iteB x40 (
  R (.tuple #[.int .i64 (2 : Int), .bool true]) H5) (
  R (.tuple #[.int .i64 (1 : Int), .bool true]) H5)))) (
  R (.tuple #[.int .i64 (1 : Int), .bool true]) H4)) (
  R (.tuple #[.int .i64 (1 : Int), .bool true]) H4)))))))))))))))))))))))

theorem F_ref18_Class_eq (R : Value → Heap → Prop) (l : Sl) (high : Bool) (i : Int) (k : Int) (H : Heap) : wpF Try.prog Try.f42 [] [] [] [20] [.slice l.p l.n l.c, .bool high, .int .i64 i, .int .i64 k] H R = F_ref18_Class R l high i k H := by kernel_rfl

theorem F_ref18_Class_ok {R : Value → Heap → Prop} (l : Sl) (high : Bool) (i : Int) (k : Int) {H : Heap} (h : F_ref18_Class R l high i k H) : CallsH Try.prog n_ref18_Class #[.slice l.p l.n l.c, .bool high, .int .i64 i, .int .i64 k] H R :=
  wpF_ok Try.func42 (F_ref18_Class_eq R l high i k H) h

/-! ### 43: platformfw/platformfwref18.window -/

def F_ref18_window_k1 (needs : Sl) (I_ : Sl → Int → Heap → Prop) (M_ : Sl → Int → Heap → Nat) (sizes : Sl) (k : Int) (H1 : Heap) (x3 : Bool) (H2 : Heap) : Prop :=
  iteB x3 (
  0 ≤ k ∧ k < (needs.n : Int) ∧ (unSome needs.p (fun a3 =>
  ∃ x4 : Int, rd H2 ((a3.add (k.toNat * 4)).add 3) = some (.int .i64 x4) ∧ (
  letH (H2.push (.cells #[.int .i64 x4] t_int (0, 0))) (fun H3 : Heap =>
  runH Try.prog (Builtin.append_ #[t_sl_int, t_sl_int] t_sl_int #[.slice sizes.p sizes.n sizes.c, .slice (some (⟨H2.size, 0, none⟩ : Addr)) 1 1]) H3 (fun v H4 =>
  ∃ sizes1 : Sl, v = .slice sizes1.p sizes1.n sizes1.c ∧ (
  letV (IntKind.i64.wrap (k + (1 : Int))) (fun k1 : Int =>
  I_ sizes1 k1 H4 ∧ M_ sizes1 k1 H4 < M_ sizes k H1)))))))) (
  letV (IntKind.i64.wrap (k + (1 : Int))) (fun k2 : Int =>
  I_ sizes k2 H2 ∧ M_ sizes k2 H2 < M_ sizes k H1))

def F_ref18_window_k2 (R : Value → Heap → Prop) (l : Sl) (i : Int) (classv : Int) (sizes : Sl) (H7 : Heap) : Prop :=
  0 ≤ i ∧ i < (l.n : Int) ∧ (unSome l.p (fun a6 =>
  ∃ x8 : Bool, rd H7 ((a6.add (i.toNat * 11)).add 6) = some (.bool x8) ∧ (
  CallsH Try.prog n_ref18_WindowSize #[.slice sizes.p sizes.n sizes.c, .int .i64 classv, .bool x8] H7 (fun v2 H8 =>
  ∃ x9 : Int, ∃ x10 : Bool, v2 = .tuple #[.int .i64 x9, .bool x10] ∧ (
  R (.tuple #[.int .i64 x9, .bool x10]) H8)))))

def F_ref18_window_k3 (R : Value → Heap → Prop) (l : Sl) (i : Int) (classv : Int) (sizes : Sl) (port : Bool) (H6 : Heap) : Prop :=
  ∃ J_2 : Heap → Prop, (
  iteB ((sizes.n : Int) == (0 : Int)) (
  iteB (!port) (
  R (.tuple #[.int .i64 (0 : Int), .bool false]) H6) (
  J_2 H6)) (
  J_2 H6)) ∧ (∀ H7 : Heap, J_2 H7 → F_ref18_window_k2 R l i classv sizes H7)

def F_ref18_window_r4 (R : Value → Heap → Prop) (l : Sl) (high : Bool) (i : Int) (classv : Int) (needs : Sl) (I_ : Sl → Int → Heap → Prop) (M_ : Sl → Int → Heap → Nat) (sizes : Sl) (k : Int) (H1 : Heap) : Prop :=
  iteB (decide (k < (needs.n : Int))) (
  ∃ J_ : Bool → Heap → Prop, (
  0 ≤ k ∧ k < (needs.n : Int) ∧ (unSome needs.p (fun a =>
  ∃ x : Int, rd H1 ((a.add (k.toNat * 4)).add 2) = some (.int .i64 x) ∧ (
  iteB (x == classv) (
  0 ≤ k ∧ k < (needs.n : Int) ∧ (unSome needs.p (fun a1 =>
  ∃ x1 : Int, rd H1 (a1.add (k.toNat * 4)) = some (.int .i64 x1) ∧ (
  0 ≤ x1 ∧ x1 < (l.n : Int) ∧ (unSome l.p (fun a2 =>
  ∃ x2 : Int, rd H1 (a2.add (x1.toNat * 11)) = some (.int .i64 x2) ∧ (
  J_ (x2 == i) H1))))))) (
  J_ false H1))))) ∧ (∀ x3 : Bool, ∀ H2 : Heap, J_ x3 H2 → F_ref18_window_k1 needs I_ M_ sizes k H1 x3 H2)) (
  ∃ J_1 : Bool → Heap → Prop, (
  0 ≤ i ∧ i < (l.n : Int) ∧ (unSome l.p (fun a4 =>
  ∃ x5 : Bool, rd H1 ((a4.add (i.toNat * 11)).add 6) = some (.bool x5) ∧ (
  iteB x5 (
  iteB (classv != (2 : Int)) (
  J_1 true H1) (
  iteB high (
  0 ≤ i ∧ i < (l.n : Int) ∧ (unSome l.p (fun a5 =>
  ∃ x6 : Bool, rd H1 ((a5.add (i.toNat * 11)).add 5) = some (.bool x6) ∧ (
  iteB x6 (
  CallsH Try.prog n_ref18_above #[.slice l.p l.n l.c, .int .i64 i] H1 (fun v1 H5 =>
  ∃ x7 : Bool, v1 = .bool x7 ∧ (
  J_1 x7 H5))) (
  J_1 false H1))))) (
  J_1 false H1))) (
  J_1 false H1))))) ∧ (∀ port : Bool, ∀ H6 : Heap, J_1 port H6 → F_ref18_window_k3 R l i classv sizes port H6))

def F_ref18_window (R : Value → Heap → Prop) (l : Sl) (high : Bool) (i : Int) (classv : Int) (needs : Sl) (H : Heap) : Prop :=
  ∃ I_ : Sl → Int → Heap → Prop, ∃ M_ : Sl → Int → Heap → Nat, I_ (Sl.mk none 0 0) (0 : Int) H ∧ (∀ sizes : Sl, ∀ k : Int, ∀ H1 : Heap, I_ sizes k H1 → F_ref18_window_r4 R l high i classv needs I_ M_ sizes k H1)

theorem F_ref18_window_eq (R : Value → Heap → Prop) (l : Sl) (high : Bool) (i : Int) (classv : Int) (needs : Sl) (H : Heap) : wpF Try.prog Try.f43 [(12, .slice none 0 0), (13, .int .i64 0), (14, .bool false), (40, .bool false)] [(6, [40], [0, 1, 2, 3, 4, 12, 13]), (8, [14], [0, 2, 3, 12]), (10, [], [0, 2, 3, 12])] [(3, [12, 13], [0, 1, 2, 3, 4])] [20] [.slice l.p l.n l.c, .bool high, .int .i64 i, .int .i64 classv, .slice needs.p needs.n needs.c] H R = F_ref18_window R l high i classv needs H := by kernel_rfl

theorem F_ref18_window_ok {R : Value → Heap → Prop} (l : Sl) (high : Bool) (i : Int) (classv : Int) (needs : Sl) {H : Heap} (h : F_ref18_window R l high i classv needs H) : CallsH Try.prog n_ref18_window #[.slice l.p l.n l.c, .bool high, .int .i64 i, .int .i64 classv, .slice needs.p needs.n needs.c] H R :=
  wpF_ok Try.func43 (F_ref18_window_eq R l high i classv needs H) h

/-! ### 44: platformfw/platformfwref18.NeedsBelow -/

def F_ref18_NeedsBelow_k1 (needs : Sl) (I_ : Sl → Int → Heap → Prop) (M_ : Sl → Int → Heap → Nat) (out : Sl) (k : Int) (H2 : Heap) (x3 : Bool) (H3 : Heap) : Prop :=
  iteB x3 (
  0 ≤ k ∧ k < (needs.n : Int) ∧ (unSome needs.p (fun a4 =>
  ∃ x4 : Int, rd H3 (a4.add (k.toNat * 4)) = some (.int .i64 x4) ∧ ∃ x5 : Int, rd H3 ((a4.add (k.toNat * 4)).add 1) = some (.int .i64 x5) ∧ ∃ x6 : Int, rd H3 ((a4.add (k.toNat * 4)).add 2) = some (.int .i64 x6) ∧ ∃ x7 : Int, rd H3 ((a4.add (k.toNat * 4)).add 3) = some (.int .i64 x7) ∧ (
  letH (H3.push (.cells #[.int .i64 x4, .int .i64 x5, .int .i64 x6, .int .i64 x7] t_api_Need (0, 0))) (fun H4 : Heap =>
  runH Try.prog (Builtin.append_ #[t_sl_api_Need, t_sl_api_Need] t_sl_api_Need #[.slice out.p out.n out.c, .slice (some (⟨H3.size, 0, none⟩ : Addr)) 1 1]) H4 (fun v H5 =>
  ∃ out1 : Sl, v = .slice out1.p out1.n out1.c ∧ (
  letV (IntKind.i64.wrap (k + (1 : Int))) (fun k1 : Int =>
  I_ out1 k1 H5 ∧ M_ out1 k1 H5 < M_ out k H2)))))))) (
  letV (IntKind.i64.wrap (k + (1 : Int))) (fun k2 : Int =>
  I_ out k2 H3 ∧ M_ out k2 H3 < M_ out k H2))

def F_ref18_NeedsBelow_r2 (R : Value → Heap → Prop) (l : Sl) (needs : Sl) (parent : Int) (classv : Int) (I_ : Sl → Int → Heap → Prop) (M_ : Sl → Int → Heap → Nat) (out : Sl) (k : Int) (H2 : Heap) : Prop :=
  iteB (decide (k < (needs.n : Int))) (
  0 ≤ k ∧ k < (needs.n : Int) ∧ (unSome needs.p (fun a1 =>
  ∃ f : Int, rd H2 (a1.add (k.toNat * 4)) = some (.int .i64 f) ∧ (
  ∃ J_1 : Bool → Heap → Prop, (
  0 ≤ k ∧ k < (needs.n : Int) ∧ (unSome needs.p (fun a2 =>
  ∃ x1 : Int, rd H2 ((a2.add (k.toNat * 4)).add 2) = some (.int .i64 x1) ∧ (
  iteB (x1 == classv) (
  iteB (decide (f ≥ (0 : Int))) (
  iteB (decide (f < (l.n : Int))) (
  0 ≤ f ∧ f < (l.n : Int) ∧ (unSome l.p (fun a3 =>
  ∃ x2 : Int, rd H2 (a3.add (f.toNat * 11)) = some (.int .i64 x2) ∧ (
  J_1 (x2 == parent) H2)))) (
  J_1 false H2)) (
  J_1 false H2)) (
  J_1 false H2))))) ∧ (∀ x3 : Bool, ∀ H3 : Heap, J_1 x3 H3 → F_ref18_NeedsBelow_k1 needs I_ M_ out k H2 x3 H3))))) (
  R (.slice out.p out.n out.c) H2)

def F_ref18_NeedsBelow_k3 (R : Value → Heap → Prop) (l : Sl) (needs : Sl) (parent : Int) (classv : Int) (H1 : Heap) : Prop :=
  ∃ I_ : Sl → Int → Heap → Prop, ∃ M_ : Sl → Int → Heap → Nat, I_ (Sl.mk none 0 0) (0 : Int) H1 ∧ (∀ out : Sl, ∀ k : Int, ∀ H2 : Heap, I_ out k H2 → F_ref18_NeedsBelow_r2 R l needs parent classv I_ M_ out k H2)

def F_ref18_NeedsBelow (R : Value → Heap → Prop) (l : Sl) (needs : Sl) (parent : Int) (classv : Int) (H : Heap) : Prop :=
  ∃ J_ : Heap → Prop, (
  iteB (decide (parent < (-1 : Int))) (
  R (.slice none 0 0) H) (
  iteB (decide (parent ≥ (l.n : Int))) (
  R (.slice none 0 0) H) (
  iteB (decide (parent ≥ (0 : Int))) (
  0 ≤ parent ∧ parent < (l.n : Int) ∧ (unSome l.p (fun a =>
  ∃ x : Bool, rd H ((a.add (parent.toNat * 11)).add 4) = some (.bool x) ∧ (
  iteB (!x) (
  R (.slice none 0 0) H) (
  J_ H))))) (
  J_ H)))) ∧ (∀ H1 : Heap, J_ H1 → F_ref18_NeedsBelow_k3 R l needs parent classv H1)

theorem F_ref18_NeedsBelow_eq (R : Value → Heap → Prop) (l : Sl) (needs : Sl) (parent : Int) (classv : Int) (H : Heap) : wpF Try.prog Try.f44 [(9, .slice none 0 0), (10, .int .i64 0), (68, .bool false)] [(4, [], [0, 1, 2, 3, 9]), (9, [68], [0, 1, 2, 3, 9, 10])] [(5, [9, 10], [0, 1, 2, 3])] [20] [.slice l.p l.n l.c, .slice needs.p needs.n needs.c, .int .i64 parent, .int .i64 classv] H R = F_ref18_NeedsBelow R l needs parent classv H := by kernel_rfl

theorem F_ref18_NeedsBelow_ok {R : Value → Heap → Prop} (l : Sl) (needs : Sl) (parent : Int) (classv : Int) {H : Heap} (h : F_ref18_NeedsBelow R l needs parent classv H) : CallsH Try.prog n_ref18_NeedsBelow #[.slice l.p l.n l.c, .slice needs.p needs.n needs.c, .int .i64 parent, .int .i64 classv] H R :=
  wpF_ok Try.func44 (F_ref18_NeedsBelow_eq R l needs parent classv H) h

/-! ### 45: platformfw/platformfwref21.Place -/

def F_ref21_Place_r1 (sizes : Sl) (H4 : Heap) (k : Int) (left2 : Sl) (i : Int) (J_1 : Bool → Heap → Prop) (I_2 : Bool → Int → Heap → Prop) (M_2 : Bool → Int → Heap → Nat) (found : Bool) (j : Int) (H10 : Heap) : Prop :=
  iteB (decide (j < (left2.n : Int))) (
  iteB (!found) (
  0 ≤ j ∧ j < (left2.n : Int) ∧ (unSome left2.p (fun a1 =>
  ∃ x4 : Int, rd H10 (a1.add (j.toNat * 2)) = some (.int .u64 x4) ∧ (
  CallsH Try.prog n_ref21_up #[.int .u64 x4, .int .i64 k] H10 (fun v3 H11 =>
  ∃ atv : Int, v3 = .int .u64 atv ∧ (
  0 ≤ (IntKind.u64.wrap k) ∧ (
  0 ≤ j ∧ j < (left2.n : Int) ∧ (unSome left2.p (fun a2 =>
  ∃ x5 : Int, rd H11 (a2.add (j.toNat * 2)) = some (.int .u64 x5) ∧ (
  0 ≤ j ∧ j < (left2.n : Int) ∧ (unSome left2.p (fun a3 =>
  ∃ x6 : Int, rd H11 ((a3.add (j.toNat * 2)).add 1) = some (.int .u64 x6) ∧ (
  iteB (decide ((IntKind.u64.wrap (atv + (IntKind.u64.wrap ((1 : Int) * 2 ^ (min (IntKind.u64.wrap k).toNat IntKind.u64.bits))))) ≤ (IntKind.u64.wrap (x5 + x6)))) (
  0 ≤ i ∧ i < ((sizes.n : Int).toNat : Int) ∧ (okRow H11 ((⟨H4.size, 0, none⟩ : Addr).add (i.toNat * 1)) 1 ∧ (
  letH (wrs H11 ((⟨H4.size, 0, none⟩ : Addr).add (i.toNat * 1)) [.int .u64 atv]) (fun H12 : Heap =>
  letV (IntKind.i64.wrap (j + (1 : Int))) (fun j1 : Int =>
  I_2 true j1 H12 ∧ M_2 true j1 H12 < M_2 found j H10))))) (
  letV (IntKind.i64.wrap (j + (1 : Int))) (fun j2 : Int =>
  I_2 found j2 H11 ∧ M_2 found j2 H11 < M_2 found j H10))))))))))))))) (
  J_1 found H10)) (
  J_1 found H10)

def F_ref21_Place_k2 (R : Value → Heap → Prop) (H : Heap) (free : Sl) (sizes : Sl) (H4 : Heap) (k : Int) (I_1 : Sl → Int → Heap → Prop) (M_1 : Sl → Int → Heap → Nat) (left2 : Sl) (i : Int) (H9 : Heap) (found1 : Bool) (H13 : Heap) : Prop :=
  iteB (!found1) (
  CallsH Try.prog n_ref21_refusal #[.slice free.p free.n free.c, .slice sizes.p sizes.n sizes.c] H13 (fun v4 H14 =>
  ∃ x7 : Int, ∃ x8 : Int, ∃ x9 : Int, ∃ x10 : Int, v4 = .agg #[.int .i64 x7, .int .i64 x8, .int .u64 x9, .int .u64 x10] ∧ (
  okRow H14 (⟨H.size, 0, none⟩ : Addr) 4 ∧ (
  letH (wrs H14 (⟨H.size, 0, none⟩ : Addr) [.int .i64 x7, .int .i64 x8, .int .u64 x9, .int .u64 x10]) (fun H15 : Heap =>
  ∃ r4 : Int, rd H15 (⟨H.size, 0, none⟩ : Addr) = some (.int .i64 r4) ∧ ∃ r5 : Int, rd H15 ((⟨H.size, 0, none⟩ : Addr).add 1) = some (.int .i64 r5) ∧ ∃ r6 : Int, rd H15 ((⟨H.size, 0, none⟩ : Addr).add 2) = some (.int .u64 r6) ∧ ∃ r7 : Int, rd H15 ((⟨H.size, 0, none⟩ : Addr).add 3) = some (.int .u64 r7) ∧ (
  R (.tuple #[.slice none 0 0, .agg #[.int .i64 r4, .int .i64 r5, .int .u64 r6, .int .u64 r7], .int .i64 (19 : Int)]) H15)))))) (
  0 ≤ i ∧ i < ((sizes.n : Int).toNat : Int) ∧ (∃ x11 : Int, rd H13 ((⟨H4.size, 0, none⟩ : Addr).add (i.toNat * 1)) = some (.int .u64 x11) ∧ (
  0 ≤ (IntKind.u64.wrap k) ∧ (
  CallsH Try.prog n_ref21_remove #[.slice left2.p left2.n left2.c, .agg #[.int .u64 x11, .int .u64 (IntKind.u64.wrap ((1 : Int) * 2 ^ (min (IntKind.u64.wrap k).toNat IntKind.u64.bits)))]] H13 (fun v5 H16 =>
  ∃ left3 : Sl, v5 = .slice left3.p left3.n left3.c ∧ (
  letV (IntKind.i64.wrap (i + (1 : Int))) (fun i2 : Int =>
  I_1 left3 i2 H16 ∧ M_1 left3 i2 H16 < M_1 left2 i H9)))))))

def F_ref21_Place_r3 (R : Value → Heap → Prop) (H : Heap) (free : Sl) (sizes : Sl) (H4 : Heap) (I_ : Sl → Int → Heap → Prop) (M_ : Sl → Int → Heap → Nat) (left1 : Sl) (k : Int) (H8 : Heap) (I_1 : Sl → Int → Heap → Prop) (M_1 : Sl → Int → Heap → Nat) (left2 : Sl) (i : Int) (H9 : Heap) : Prop :=
  iteB (decide (i < (sizes.n : Int))) (
  0 ≤ i ∧ i < (sizes.n : Int) ∧ (unSome sizes.p (fun a =>
  ∃ x3 : Int, rd H9 (a.add (i.toNat * 1)) = some (.int .i64 x3) ∧ (
  iteB (x3 != k) (
  letV (IntKind.i64.wrap (i + (1 : Int))) (fun i1 : Int =>
  I_1 left2 i1 H9 ∧ M_1 left2 i1 H9 < M_1 left2 i H9)) (
  ∃ J_1 : Bool → Heap → Prop, (
  ∃ I_2 : Bool → Int → Heap → Prop, ∃ M_2 : Bool → Int → Heap → Nat, I_2 false (0 : Int) H9 ∧ (∀ found : Bool, ∀ j : Int, ∀ H10 : Heap, I_2 found j H10 → F_ref21_Place_r1 sizes H4 k left2 i J_1 I_2 M_2 found j H10)) ∧ (∀ found1 : Bool, ∀ H13 : Heap, J_1 found1 H13 → F_ref21_Place_k2 R H free sizes H4 k I_1 M_1 left2 i H9 found1 H13)))))) (
  letV (IntKind.i64.wrap (k - (1 : Int))) (fun k1 : Int =>
  I_ left2 k1 H9 ∧ M_ left2 k1 H9 < M_ left1 k H8))

def F_ref21_Place_r4 (R : Value → Heap → Prop) (H : Heap) (free : Sl) (sizes : Sl) (H4 : Heap) (I_ : Sl → Int → Heap → Prop) (M_ : Sl → Int → Heap → Nat) (left1 : Sl) (k : Int) (H8 : Heap) : Prop :=
  iteB (decide (k ≥ (0 : Int))) (
  ∃ I_1 : Sl → Int → Heap → Prop, ∃ M_1 : Sl → Int → Heap → Nat, I_1 left1 (0 : Int) H8 ∧ (∀ left2 : Sl, ∀ i : Int, ∀ H9 : Heap, I_1 left2 i H9 → F_ref21_Place_r3 R H free sizes H4 I_ M_ left1 k H8 I_1 M_1 left2 i H9)) (
  okRow H8 (⟨H.size, 0, none⟩ : Addr) 4 ∧ (
  letH (wrs H8 (⟨H.size, 0, none⟩ : Addr) [.int .i64 (0 : Int), .int .i64 (0 : Int), .int .u64 (0 : Int), .int .u64 (0 : Int)]) (fun H17 : Heap =>
  ∃ r8 : Int, rd H17 (⟨H.size, 0, none⟩ : Addr) = some (.int .i64 r8) ∧ ∃ r9 : Int, rd H17 ((⟨H.size, 0, none⟩ : Addr).add 1) = some (.int .i64 r9) ∧ ∃ r10 : Int, rd H17 ((⟨H.size, 0, none⟩ : Addr).add 2) = some (.int .u64 r10) ∧ ∃ r11 : Int, rd H17 ((⟨H.size, 0, none⟩ : Addr).add 3) = some (.int .u64 r11) ∧ (
  R (.tuple #[.slice (some (⟨H4.size, 0, none⟩ : Addr)) ((sizes.n : Int).toNat) ((sizes.n : Int).toNat), .agg #[.int .i64 r8, .int .i64 r9, .int .u64 r10, .int .u64 r11], .int .i64 (0 : Int)]) H17))))

def F_ref21_Place_k5 (R : Value → Heap → Prop) (H : Heap) (free : Sl) (sizes : Sl) (x2 : Bool) (H4 : Heap) : Prop :=
  iteB x2 (
  okRow H4 (⟨H.size, 0, none⟩ : Addr) 4 ∧ (
  letH (wrs H4 (⟨H.size, 0, none⟩ : Addr) [.int .i64 (0 : Int), .int .i64 (0 : Int), .int .u64 (0 : Int), .int .u64 (0 : Int)]) (fun H5 : Heap =>
  ∃ r : Int, rd H5 (⟨H.size, 0, none⟩ : Addr) = some (.int .i64 r) ∧ ∃ r1 : Int, rd H5 ((⟨H.size, 0, none⟩ : Addr).add 1) = some (.int .i64 r1) ∧ ∃ r2 : Int, rd H5 ((⟨H.size, 0, none⟩ : Addr).add 2) = some (.int .u64 r2) ∧ ∃ r3 : Int, rd H5 ((⟨H.size, 0, none⟩ : Addr).add 3) = some (.int .u64 r3) ∧ (
  R (.tuple #[.slice none 0 0, .agg #[.int .i64 r, .int .i64 r1, .int .u64 r2, .int .u64 r3], .int .i64 (1 : Int)]) H5)))) (
  0 ≤ (sizes.n : Int) ∧ (sizes.n : Int) ≤ (sizes.n : Int) ∧ (sizes.n : Int) * ((8 : Nat) : Int) ≤ 281474976710656 ∧ (
  letH (H4.push (.cells (zeroRow (.int .u64 (0 : Int)) (sizes.n : Int).toNat) t_uint64 (0, 0))) (fun H6 : Heap =>
  CallsH Try.prog n_ref21_merge #[.slice free.p free.n free.c] H6 (fun v2 H7 =>
  ∃ left : Sl, v2 = .slice left.p left.n left.c ∧ (
  ∃ I_ : Sl → Int → Heap → Prop, ∃ M_ : Sl → Int → Heap → Nat, I_ left (44 : Int) H7 ∧ (∀ left1 : Sl, ∀ k : Int, ∀ H8 : Heap, I_ left1 k H8 → F_ref21_Place_r4 R H free sizes H4 I_ M_ left1 k H8))))))

def F_ref21_Place (R : Value → Heap → Prop) (free : Sl) (sizes : Sl) (H : Heap) : Prop :=
  letH (H.push (.cells #[.int .i64 (0 : Int), .int .i64 (0 : Int), .int .u64 (0 : Int), .int .u64 (0 : Int)] t_api_Certificate (0, 0))) (fun H1 : Heap =>
  ∃ J_ : Bool → Heap → Prop, (
  CallsH Try.prog n_ref21_ValidRanges #[.slice free.p free.n free.c] H1 (fun v H2 =>
  ∃ x : Bool, v = .bool x ∧ (
  iteB (!x) (
  J_ true H2) (
  CallsH Try.prog n_ref21_items #[.slice sizes.p sizes.n sizes.c] H2 (fun v1 H3 =>
  ∃ x1 : Bool, v1 = .bool x1 ∧ (
  J_ (!x1) H3)))))) ∧ (∀ x2 : Bool, ∀ H4 : Heap, J_ x2 H4 → F_ref21_Place_k5 R H free sizes x2 H4))

theorem F_ref21_Place_eq (R : Value → Heap → Prop) (free : Sl) (sizes : Sl) (H : Heap) : wpF Try.prog Try.f45 [(8, .slice none 0 0), (9, .int .i64 0), (10, .int .i64 0), (11, .bool false), (12, .int .i64 0), (21, .bool false)] [(2, [21], [0, 1, 5]), (19, [11], [0, 1, 5, 7, 8, 9, 10])] [(6, [8, 9], [0, 1, 5, 7]), (9, [8, 10], [0, 1, 5, 7, 9]), (14, [11, 12], [0, 1, 5, 7, 8, 9, 10])] [20] [.slice free.p free.n free.c, .slice sizes.p sizes.n sizes.c] H R = F_ref21_Place R free sizes H := by kernel_rfl

theorem F_ref21_Place_ok {R : Value → Heap → Prop} (free : Sl) (sizes : Sl) {H : Heap} (h : F_ref21_Place R free sizes H) : CallsH Try.prog n_ref21_Place #[.slice free.p free.n free.c, .slice sizes.p sizes.n sizes.c] H R :=
  wpF_ok Try.func45 (F_ref21_Place_eq R free sizes H) h

/-! ### 46: platformfw/platformfwref21.Free -/

def F_ref21_Free_r1 (R : Value → Heap → Prop) (fixed : Sl) (I_ : Sl → Int → Heap → Prop) (M_ : Sl → Int → Heap → Nat) (free1 : Sl) (i : Int) (H4 : Heap) : Prop :=
  iteB (decide (i < (fixed.n : Int))) (
  0 ≤ i ∧ i < (fixed.n : Int) ∧ (unSome fixed.p (fun a =>
  ∃ x2 : Int, rd H4 (a.add (i.toNat * 2)) = some (.int .u64 x2) ∧ ∃ x3 : Int, rd H4 ((a.add (i.toNat * 2)).add 1) = some (.int .u64 x3) ∧ (
  CallsH Try.prog n_ref21_remove #[.slice free1.p free1.n free1.c, .agg #[.int .u64 x2, .int .u64 x3]] H4 (fun v3 H5 =>
  ∃ free2 : Sl, v3 = .slice free2.p free2.n free2.c ∧ (
  letV (IntKind.i64.wrap (i + (1 : Int))) (fun i1 : Int =>
  I_ free2 i1 H5 ∧ M_ free2 i1 H5 < M_ free1 i H4))))))) (
  R (.slice free1.p free1.n free1.c) H4)

def F_ref21_Free (R : Value → Heap → Prop) (l : Sl) (fixed : Sl) (H : Heap) : Prop :=
  CallsH Try.prog n_ref21_ValidRanges #[.slice l.p l.n l.c] H (fun v H1 =>
  ∃ x : Bool, v = .bool x ∧ (
  iteB (!x) (
  R (.slice none 0 0) H1) (
  CallsH Try.prog n_ref21_ValidRanges #[.slice fixed.p fixed.n fixed.c] H1 (fun v1 H2 =>
  ∃ x1 : Bool, v1 = .bool x1 ∧ (
  iteB (!x1) (
  R (.slice none 0 0) H2) (
  CallsH Try.prog n_ref21_merge #[.slice l.p l.n l.c] H2 (fun v2 H3 =>
  ∃ free : Sl, v2 = .slice free.p free.n free.c ∧ (
  ∃ I_ : Sl → Int → Heap → Prop, ∃ M_ : Sl → Int → Heap → Nat, I_ free (0 : Int) H3 ∧ (∀ free1 : Sl, ∀ i : Int, ∀ H4 : Heap, I_ free1 i H4 → F_ref21_Free_r1 R fixed I_ M_ free1 i H4)))))))))

theorem F_ref21_Free_eq (R : Value → Heap → Prop) (l : Sl) (fixed : Sl) (H : Heap) : wpF Try.prog Try.f46 [(5, .slice none 0 0), (6, .int .i64 0)] [] [(5, [5, 6], [1])] [20] [.slice l.p l.n l.c, .slice fixed.p fixed.n fixed.c] H R = F_ref21_Free R l fixed H := by kernel_rfl

theorem F_ref21_Free_ok {R : Value → Heap → Prop} (l : Sl) (fixed : Sl) {H : Heap} (h : F_ref21_Free R l fixed H) : CallsH Try.prog n_ref21_Free #[.slice l.p l.n l.c, .slice fixed.p fixed.n fixed.c] H R :=
  wpF_ok Try.func46 (F_ref21_Free_eq R l fixed H) h

end Go.Proofs.Ytnhhncjflnlfaaa
end
