/-
  The shallow readings of this seat's functions, written by a program (gen.py); the kernel holds each against the loaded program.
-/
import Derived.Test.YtinhkngomojheaaDoorProg
import Derived.Test.YtinhkngomojheaaDoorEngS
namespace Go.Proofs.YtinhkngomojheaaDoor
open Go.Eng
set_option linter.unusedVariables false
abbrev n_law22_InterruptsBalance : FuncId := 3
abbrev n_law22_InterruptsConnect : FuncId := 4
abbrev n_law22_InterruptsSharing : FuncId := 5
abbrev n_help_Mod : FuncId := 6
abbrev n_law22_awake : FuncId := 7
abbrev n_interrupts_Connect : FuncId := 8
abbrev n_gen_Topology : FuncId := 9
abbrev n_ref21_Connect : FuncId := 10
abbrev n_interrupts_Lines : FuncId := 11
abbrev n_ref21_Lines : FuncId := 12
abbrev n_help_Equal_int : FuncId := 13
abbrev n_gen_Host : FuncId := 14
abbrev n_ref21_LinkOf : FuncId := 15
abbrev n_interrupts_Swizzle : FuncId := 16
abbrev n_interrupts_Vectors : FuncId := 17
abbrev n_enumerate_Valid : FuncId := 18
abbrev n_allocate_ValidHost : FuncId := 19
abbrev n_interrupts_LinkOf : FuncId := 20
abbrev n_math_bits_TrailingZeros32 : FuncId := 21
abbrev n_gen_bars : FuncId := 22
abbrev n_ref18_Valid : FuncId := 23
abbrev n_ref21_ValidHost : FuncId := 24
abbrev n_gen_ranges : FuncId := 25
abbrev n_ref21_Swizzle : FuncId := 26
abbrev n_interrupts_swizzle : FuncId := 27
abbrev n_math_bits_Len : FuncId := 28
abbrev n_allocate_Place : FuncId := 29
abbrev n_pciconf_Valid : FuncId := 30
abbrev n_allocate_validRanges : FuncId := 31
abbrev n_allocate_within : FuncId := 32
abbrev n_ref18_ValidFunction : FuncId := 33
abbrev n_ref21_within : FuncId := 34
abbrev n_math_bits_Len32 : FuncId := 35
abbrev n_math_bits_Len64 : FuncId := 36
abbrev n_allocate_placeable : FuncId := 37
abbrev n_slices_SortStableFunc_sl_int_int : FuncId := 38
abbrev n_allocate_Place_1 : FuncId := 39
abbrev n_cmp_Compare_int : FuncId := 40
abbrev n_allocate_merged : FuncId := 41
abbrev n_allocate_take : FuncId := 42
abbrev n_allocate_certificate : FuncId := 43
abbrev n_pciconf_registers : FuncId := 44
abbrev n_pciconf_validBar : FuncId := 45
abbrev n_ref18_Registers : FuncId := 46
abbrev n_ref21_ValidRanges : FuncId := 47
abbrev n_slices_stableCmpFunc_int : FuncId := 48
abbrev n_cmp_isNaN_int : FuncId := 49
abbrev n_slices_Clone_sl_api_Range_api_Range : FuncId := 50
abbrev n_slices_SortFunc_sl_api_Range_api_Range : FuncId := 51
abbrev n_allocate_merged_1 : FuncId := 52
abbrev n_cmp_Compare_uint64 : FuncId := 53
abbrev n_slices_Replace_sl_api_Range_api_Range : FuncId := 54
abbrev n_allocate_demand : FuncId := 55
abbrev n_allocate_countBlocks : FuncId := 56
abbrev n_slices_insertionSortCmpFunc_int : FuncId := 57
abbrev n_slices_symMergeCmpFunc_int : FuncId := 58
abbrev n_slices_pdqsortCmpFunc_api_Range : FuncId := 59
abbrev n_cmp_isNaN_uint64 : FuncId := 60
abbrev n_slices_Insert_sl_api_Range_api_Range : FuncId := 61
abbrev n_slices_overlaps_api_Range : FuncId := 62
abbrev n_slices_rotateRight_api_Range : FuncId := 63
abbrev n_slices_startIdx_api_Range : FuncId := 64
abbrev n_slices_rotateCmpFunc_int : FuncId := 65
abbrev n_slices_insertionSortCmpFunc_api_Range : FuncId := 66
abbrev n_slices_heapSortCmpFunc_api_Range : FuncId := 67
abbrev n_slices_breakPatternsCmpFunc_api_Range : FuncId := 68
abbrev n_slices_choosePivotCmpFunc_api_Range : FuncId := 69
abbrev n_slices_reverseRangeCmpFunc_api_Range : FuncId := 70
abbrev n_slices_partialInsertionSortCmpFunc_api_Range : FuncId := 71
abbrev n_slices_partitionEqualCmpFunc_api_Range : FuncId := 72
abbrev n_slices_partitionCmpFunc_api_Range : FuncId := 73
abbrev n_slices_rotateLeft_api_Range : FuncId := 74
abbrev n_slices_swapRangeCmpFunc_int : FuncId := 75
abbrev n_slices_siftDownCmpFunc_api_Range : FuncId := 76
abbrev n_slices_nextPowerOfTwo : FuncId := 77
abbrev n_slices_xorshift_Next : FuncId := 78
abbrev n_slices_medianAdjacentCmpFunc_api_Range : FuncId := 79
abbrev n_slices_medianCmpFunc_api_Range : FuncId := 80
abbrev n_slices_Reverse_sl_api_Range_api_Range : FuncId := 81
abbrev n_slices_order2CmpFunc_api_Range : FuncId := 82
abbrev n_runtime_boundsError_Error : FuncId := 83
abbrev n_runtime_boundsError_RuntimeError : FuncId := 84
abbrev n_runtime_errorString_Error : FuncId := 85
abbrev n_runtime_errorString_RuntimeError : FuncId := 86
abbrev n_runtime_plainError_Error : FuncId := 87
abbrev n_runtime_plainError_RuntimeError : FuncId := 88
abbrev n_runtime_errorAddressString_Error : FuncId := 89
abbrev n_runtime_errorAddressString_RuntimeError : FuncId := 90
abbrev n_runtime_TypeAssertionError_Error : FuncId := 91
abbrev n_runtime_TypeAssertionError_RuntimeError : FuncId := 92
abbrev n_runtime_PanicNilError_Error : FuncId := 93
abbrev n_runtime_PanicNilError_RuntimeError : FuncId := 94
abbrev n_internal_abi_Type_Align : FuncId := 95
abbrev n_internal_runtime_maps_unhashableTypeError_Error : FuncId := 96
abbrev n_internal_runtime_maps_unhashableTypeError_RuntimeError : FuncId := 97
abbrev n_internal_abi_Kind_String : FuncId := 98
abbrev n_var_s_door_gosem_cut_vars_holds_initialisers_alone_see_the_manifest_s_row_cutvarsword_look_11_test_files_too : FuncId := 99
abbrev n_var_s_door_math_bits_deBruijn32tab_is_laid_by_its_own_initialiser_plain_data_look_11 : FuncId := 100
abbrev n_var_s_door_the_look_of_gosem_cut_vars_went_over_the_folder_that_the_caller_named_as_the_repository_s_root_look_11 : FuncId := 101
abbrev n_gosem_cut_vars : FuncId := 102
abbrev t_int64 : TypeId := 2
abbrev t_int : TypeId := 3
abbrev t_bool : TypeId := 4
abbrev t_uint8 : TypeId := 5
abbrev t_abi_BoundsErrorCode : TypeId := 6
abbrev t_runtime_boundsError : TypeId := 8
abbrev t_string : TypeId := 9
abbrev t_runtime_errorString : TypeId := 10
abbrev t_runtime_plainError : TypeId := 11
abbrev t_uintptr : TypeId := 12
abbrev t_runtime_errorAddressString : TypeId := 14
abbrev t_p_runtime_TypeAssertionError : TypeId := 15
abbrev t_p_runtime_PanicNilError : TypeId := 16
abbrev t_p_abi_Type : TypeId := 17
abbrev t_maps_unhashableTypeError : TypeId := 19
abbrev t_int32 : TypeId := 21
abbrev t_uint32 : TypeId := 22
abbrev t_sl_api_Function : TypeId := 25
abbrev t_sl_api_Range : TypeId := 26
abbrev t_sl_api_IntLink : TypeId := 27
abbrev t_sl_api_Route : TypeId := 28
abbrev t_api_Host : TypeId := 30
abbrev t_sl_api_Bar : TypeId := 31
abbrev t_api_Function : TypeId := 33
abbrev t_api_IntLink : TypeId := 35
abbrev t_api_Route : TypeId := 37
abbrev t_sl_int : TypeId := 38
abbrev t_api_Errno : TypeId := 39
abbrev t_32_int : TypeId := 42
abbrev t_uint : TypeId := 43
abbrev t_uint64 : TypeId := 53
abbrev t_api_Certificate : TypeId := 55
abbrev t_map_2_int_bool : TypeId := 61
abbrev t_2_int : TypeId := 62
abbrev t_api_Range : TypeId := 66
abbrev t_sl_uint64 : TypeId := 70
abbrev t_map_enumerate_place_bool : TypeId := 73
abbrev t_enumerate_place : TypeId := 76
abbrev t_sl_sl_api_Range : TypeId := 77
abbrev t_32_uint8 : TypeId := 80
abbrev t_api_Bar : TypeId := 82
abbrev t_slices_sortedHint : TypeId := 110
abbrev t_p_api_Range : TypeId := 116
abbrev t_slices_xorshift : TypeId := 117
abbrev t_p_int : TypeId := 121
abbrev t_p_slices_xorshift : TypeId := 124
abbrev t_runtime_TypeAssertionError : TypeId := 128
abbrev t_0_p_runtime_PanicNilError : TypeId := 129
abbrev t_runtime_PanicNilError : TypeId := 131
abbrev t_abi_TFlag : TypeId := 133
abbrev t_abi_Kind : TypeId := 134
abbrev t_p_uint8 : TypeId := 136
abbrev t_abi_NameOff : TypeId := 137
abbrev t_abi_TypeOff : TypeId := 138
abbrev t_abi_Type : TypeId := 140
abbrev t_unsafe_Pointer : TypeId := 141
def cstr_0 : ByteArray := ⟨#[0, 1, 2, 2, 3, 3, 3, 3, 4, 4, 4, 4, 4, 4, 4, 4, 5, 5, 5, 5, 5, 5, 5, 5, 5, 5, 5, 5, 5, 5, 5, 5, 6, 6, 6, 6, 6, 6, 6, 6, 6, 6, 6, 6, 6, 6, 6, 6, 6, 6, 6, 6, 6, 6, 6, 6, 6, 6, 6, 6, 6, 6, 6, 6, 7, 7, 7, 7, 7, 7, 7, 7, 7, 7, 7, 7, 7, 7, 7, 7, 7, 7, 7, 7, 7, 7, 7, 7, 7, 7, 7, 7, 7, 7, 7, 7, 7, 7, 7, 7, 7, 7, 7, 7, 7, 7, 7, 7, 7, 7, 7, 7, 7, 7, 7, 7, 7, 7, 7, 7, 7, 7, 7, 7, 7, 7, 7, 7, 8, 8, 8, 8, 8, 8, 8, 8, 8, 8, 8, 8, 8, 8, 8, 8, 8, 8, 8, 8, 8, 8, 8, 8, 8, 8, 8, 8, 8, 8, 8, 8, 8, 8, 8, 8, 8, 8, 8, 8, 8, 8, 8, 8, 8, 8, 8, 8, 8, 8, 8, 8, 8, 8, 8, 8, 8, 8, 8, 8, 8, 8, 8, 8, 8, 8, 8, 8, 8, 8, 8, 8, 8, 8, 8, 8, 8, 8, 8, 8, 8, 8, 8, 8, 8, 8, 8, 8, 8, 8, 8, 8, 8, 8, 8, 8, 8, 8, 8, 8, 8, 8, 8, 8, 8, 8, 8, 8, 8, 8, 8, 8, 8, 8, 8, 8, 8, 8, 8, 8, 8, 8, 8, 8, 8, 8, 8, 8]⟩

/-! ### 3: platformfw/platformfwlaw22.InterruptsBalance -/

def F_law22_InterruptsBalance_r1 (R : Value → Heap → Prop) (possible : Int) (H15 : Heap) (I_2 : Int → Int → Int → Heap → Prop) (M_2 : Int → Int → Int → Heap → Nat) (least : Int) (most : Int) (i4 : Int) (H19 : Heap) : Prop :=
  iteB (decide (i4 < (32 : Int))) (
  0 ≤ (IntKind.u64.wrap i4) ∧ (
  iteB ((bitsAnd .u32 (possible.fdiv (2 ^ (min (IntKind.u64.wrap i4).toNat IntKind.u32.bits))) (1 : Int)) == (1 : Int)) (
  0 ≤ i4 ∧ i4 < ((32 : Nat) : Int) ∧ (∃ x21 : Int, rd H19 ((⟨H15.size, 0, none⟩ : Addr).add (i4.toNat * 1)) = some (.int .i64 x21) ∧ (
  0 ≤ i4 ∧ i4 < ((32 : Nat) : Int) ∧ (∃ x22 : Int, rd H19 ((⟨H15.size, 0, none⟩ : Addr).add (i4.toNat * 1)) = some (.int .i64 x22) ∧ (
  letV (if x21 < least then x21 else least) (fun least1 : Int =>
  Keeps H19 H19 [(((⟨H15.size, 0, none⟩ : Addr).add (i4.toNat * 1)), 1)] ∧ (
  letV (if x22 > most then x22 else most) (fun most1 : Int =>
  letV (IntKind.i64.wrap (i4 + (1 : Int))) (fun i5 : Int =>
  I_2 least1 most1 i5 H19 ∧ M_2 least1 most1 i5 H19 < M_2 least most i4 H19))))))))) (
  0 ≤ i4 ∧ i4 < ((32 : Nat) : Int) ∧ (∃ x23 : Int, rd H19 ((⟨H15.size, 0, none⟩ : Addr).add (i4.toNat * 1)) = some (.int .i64 x23) ∧ (
  iteB (decide (x23 > (0 : Int))) (
  R (.bool false) H19) (
  letV (IntKind.i64.wrap (i4 + (1 : Int))) (fun i6 : Int =>
  I_2 least most i6 H19 ∧ M_2 least most i6 H19 < M_2 least most i4 H19))))))) (
  R (.bool (decide ((IntKind.i64.wrap (most - least)) ≤ (1 : Int)))) H19)

def F_law22_InterruptsBalance_r2 (R : Value → Heap → Prop) (possible : Int) (n1 : Int) (x14 : Sl) (H15 : Heap) (I_1 : Int → Heap → Prop) (M_1 : Int → Heap → Nat) (i2 : Int) (H17 : Heap) : Prop :=
  iteB (decide (i2 < n1)) (
  0 ≤ i2 ∧ i2 < (x14.n : Int) ∧ (unSome x14.p (fun a =>
  ∃ x17 : Int, rd H17 (a.add (i2.toNat * 1)) = some (.int .i64 x17) ∧ (
  iteB (decide (x17 < (0 : Int))) (
  R (.bool false) H17) (
  0 ≤ i2 ∧ i2 < (x14.n : Int) ∧ (unSome x14.p (fun a1 =>
  ∃ x18 : Int, rd H17 (a1.add (i2.toNat * 1)) = some (.int .i64 x18) ∧ (
  iteB (decide (x18 > (31 : Int))) (
  R (.bool false) H17) (
  0 ≤ i2 ∧ i2 < (x14.n : Int) ∧ (unSome x14.p (fun a2 =>
  ∃ x19 : Int, rd H17 (a2.add (i2.toNat * 1)) = some (.int .i64 x19) ∧ (
  0 ≤ x19 ∧ x19 < ((32 : Nat) : Int) ∧ (∃ x20 : Int, rd H17 ((⟨H15.size, 0, none⟩ : Addr).add (x19.toNat * 1)) = some (.int .i64 x20) ∧ (
  0 ≤ x19 ∧ x19 < ((32 : Nat) : Int) ∧ (okRow H17 ((⟨H15.size, 0, none⟩ : Addr).add (x19.toNat * 1)) 1 ∧ (
  letH (wrs H17 ((⟨H15.size, 0, none⟩ : Addr).add (x19.toNat * 1)) [.int .i64 (IntKind.i64.wrap (x20 + (1 : Int)))]) (fun H18 : Heap =>
  letV (IntKind.i64.wrap (i2 + (1 : Int))) (fun i3 : Int =>
  I_1 i3 H18 ∧ M_1 i3 H18 < M_1 i2 H17)))))))))))))))))) (
  ∃ I_2 : Int → Int → Int → Heap → Prop, ∃ M_2 : Int → Int → Int → Heap → Nat, I_2 n1 (0 : Int) (0 : Int) H17 ∧ (∀ least : Int, ∀ most : Int, ∀ i4 : Int, ∀ H19 : Heap, I_2 least most i4 H19 → F_law22_InterruptsBalance_r1 R possible H15 I_2 M_2 least most i4 H19))

def F_law22_InterruptsBalance_r3 (R : Value → Heap → Prop) (possible : Int) (H1 : Heap) (n1 : Int) (I_ : Sl → Int → Heap → Prop) (M_ : Sl → Int → Heap → Nat) (l : Sl) (i : Int) (H5 : Heap) : Prop :=
  iteB (decide (i < n1)) (
  letH (H5.push (.cells #[.int .i64 (-1 : Int), .int .i64 i, .int .i64 (1 : Int), .int .i64 (0 : Int), .bool false, .bool false, .bool false, .int .i64 (0 : Int), .int .i64 (IntKind.i64.wrap ((1 : Int) + (i.tmod (4 : Int)))), .int .i64 (0 : Int), .slice none 0 0] t_api_Function (0, 0))) (fun H6 : Heap =>
  runH Tryd.prog (Builtin.append_ #[t_sl_api_Function, t_sl_api_Function] t_sl_api_Function #[.slice l.p l.n l.c, .slice (some (⟨H5.size, 0, none⟩ : Addr)) 1 1]) H6 (fun v2 H7 =>
  ∃ l1 : Sl, v2 = .slice l1.p l1.n l1.c ∧ (
  ∃ x2 : Sl, rd H7 ((⟨H1.size, 0, none⟩ : Addr).add 6) = some (.slice x2.p x2.n x2.c) ∧ (
  letH (H7.push (.cells #[.int .u32 possible] t_api_IntLink (0, 0))) (fun H8 : Heap =>
  runH Tryd.prog (Builtin.append_ #[t_sl_api_IntLink, t_sl_api_IntLink] t_sl_api_IntLink #[.slice x2.p x2.n x2.c, .slice (some (⟨H7.size, 0, none⟩ : Addr)) 1 1]) H8 (fun v3 H9 =>
  ∃ x3 : Sl, v3 = .slice x3.p x3.n x3.c ∧ (
  okRow H9 ((⟨H1.size, 0, none⟩ : Addr).add 6) 1 ∧ (
  letH (wrs H9 ((⟨H1.size, 0, none⟩ : Addr).add 6) [.slice x3.p x3.n x3.c]) (fun H10 : Heap =>
  ∃ x4 : Sl, rd H10 ((⟨H1.size, 0, none⟩ : Addr).add 7) = some (.slice x4.p x4.n x4.c) ∧ (
  letH (H10.push (.cells #[.int .i64 i, .int .i64 (IntKind.i64.wrap ((1 : Int) + (i.tmod (4 : Int)))), .int .i64 i] t_api_Route (0, 0))) (fun H11 : Heap =>
  runH Tryd.prog (Builtin.append_ #[t_sl_api_Route, t_sl_api_Route] t_sl_api_Route #[.slice x4.p x4.n x4.c, .slice (some (⟨H10.size, 0, none⟩ : Addr)) 1 1]) H11 (fun v4 H12 =>
  ∃ x5 : Sl, v4 = .slice x5.p x5.n x5.c ∧ (
  okRow H12 ((⟨H1.size, 0, none⟩ : Addr).add 7) 1 ∧ (
  letH (wrs H12 ((⟨H1.size, 0, none⟩ : Addr).add 7) [.slice x5.p x5.n x5.c]) (fun H13 : Heap =>
  letV (IntKind.i64.wrap (i + (1 : Int))) (fun i1 : Int =>
  I_ l1 i1 H13 ∧ M_ l1 i1 H13 < M_ l i H5))))))))))))))))) (
  ∃ x6 : Int, rd H5 (⟨H1.size, 0, none⟩ : Addr) = some (.int .i64 x6) ∧ ∃ x7 : Sl, rd H5 ((⟨H1.size, 0, none⟩ : Addr).add 1) = some (.slice x7.p x7.n x7.c) ∧ ∃ x8 : Sl, rd H5 ((⟨H1.size, 0, none⟩ : Addr).add 2) = some (.slice x8.p x8.n x8.c) ∧ ∃ x9 : Sl, rd H5 ((⟨H1.size, 0, none⟩ : Addr).add 3) = some (.slice x9.p x9.n x9.c) ∧ ∃ x10 : Sl, rd H5 ((⟨H1.size, 0, none⟩ : Addr).add 4) = some (.slice x10.p x10.n x10.c) ∧ ∃ x11 : Sl, rd H5 ((⟨H1.size, 0, none⟩ : Addr).add 5) = some (.slice x11.p x11.n x11.c) ∧ ∃ x12 : Sl, rd H5 ((⟨H1.size, 0, none⟩ : Addr).add 6) = some (.slice x12.p x12.n x12.c) ∧ ∃ x13 : Sl, rd H5 ((⟨H1.size, 0, none⟩ : Addr).add 7) = some (.slice x13.p x13.n x13.c) ∧ (
  CallsH Tryd.prog n_interrupts_Connect #[.slice l.p l.n l.c, .agg #[.int .i64 x6, .slice x7.p x7.n x7.c, .slice x8.p x8.n x8.c, .slice x9.p x9.n x9.c, .slice x10.p x10.n x10.c, .slice x11.p x11.n x11.c, .slice x12.p x12.n x12.c, .slice x13.p x13.n x13.c]] H5 (fun v5 H14 =>
  ∃ x14 : Sl, ∃ x15 : Int, v5 = .tuple #[.slice x14.p x14.n x14.c, .int .i64 x15] ∧ (
  CallsH Tryd.prog n_law22_awake #[] H14 (fun v6 H15 =>
  ∃ x16 : Bool, v6 = .bool x16 ∧ (
  iteB (!x16) (
  R (.bool false) H15) (
  iteB (x15 != (0 : Int)) (
  R (.bool false) H15) (
  iteB ((x14.n : Int) != n1) (
  R (.bool false) H15) (
  letH (H15.push (.cells #[.int .i64 (0 : Int), .int .i64 (0 : Int), .int .i64 (0 : Int), .int .i64 (0 : Int), .int .i64 (0 : Int), .int .i64 (0 : Int), .int .i64 (0 : Int), .int .i64 (0 : Int), .int .i64 (0 : Int), .int .i64 (0 : Int), .int .i64 (0 : Int), .int .i64 (0 : Int), .int .i64 (0 : Int), .int .i64 (0 : Int), .int .i64 (0 : Int), .int .i64 (0 : Int), .int .i64 (0 : Int), .int .i64 (0 : Int), .int .i64 (0 : Int), .int .i64 (0 : Int), .int .i64 (0 : Int), .int .i64 (0 : Int), .int .i64 (0 : Int), .int .i64 (0 : Int), .int .i64 (0 : Int), .int .i64 (0 : Int), .int .i64 (0 : Int), .int .i64 (0 : Int), .int .i64 (0 : Int), .int .i64 (0 : Int), .int .i64 (0 : Int), .int .i64 (0 : Int)] t_32_int (0, 0))) (fun H16 : Heap =>
  ∃ I_1 : Int → Heap → Prop, ∃ M_1 : Int → Heap → Nat, I_1 (0 : Int) H16 ∧ (∀ i2 : Int, ∀ H17 : Heap, I_1 i2 H17 → F_law22_InterruptsBalance_r2 R possible n1 x14 H15 I_1 M_1 i2 H17)))))))))))

def F_law22_InterruptsBalance (R : Value → Heap → Prop) (possible : Int) (n : Int) (H : Heap) : Prop :=
  CallsH Tryd.prog n_help_Mod #[.int .i64 n, .int .i64 (16 : Int)] H (fun v H1 =>
  ∃ x : Int, v = .int .i64 x ∧ (
  letV (IntKind.i64.wrap ((1 : Int) + x)) (fun n1 : Int =>
  iteB (possible == (0 : Int)) (
  CallsH Tryd.prog n_law22_awake #[] H1 (fun v1 H2 =>
  ∃ x1 : Bool, v1 = .bool x1 ∧ (
  R (.bool x1) H2))) (
  letH (H1.push (.cells #[.int .i64 (0 : Int), .slice none 0 0, .slice none 0 0, .slice none 0 0, .slice none 0 0, .slice none 0 0, .slice none 0 0, .slice none 0 0] t_api_Host (0, 0))) (fun H3 : Heap =>
  okRow H3 (⟨H1.size, 0, none⟩ : Addr) 8 ∧ (
  letH (wrs H3 (⟨H1.size, 0, none⟩ : Addr) [.int .i64 (1 : Int), .slice none 0 0, .slice none 0 0, .slice none 0 0, .slice none 0 0, .slice none 0 0, .slice none 0 0, .slice none 0 0]) (fun H4 : Heap =>
  ∃ I_ : Sl → Int → Heap → Prop, ∃ M_ : Sl → Int → Heap → Nat, I_ (Sl.mk none 0 0) (0 : Int) H4 ∧ (∀ l : Sl, ∀ i : Int, ∀ H5 : Heap, I_ l i H5 → F_law22_InterruptsBalance_r3 R possible H1 n1 I_ M_ l i H5))))))))

theorem F_law22_InterruptsBalance_eq (R : Value → Heap → Prop) (possible : Int) (n : Int) (H : Heap) : wpF Tryd.prog Tryd.f3 [(5, .slice none 0 0), (7, .int .i64 0), (11, .int .i64 0), (12, .int .i64 0), (13, .int .i64 0), (14, .int .i64 0)] [] [(7, [5, 7], [0, 1, 6]), (17, [11], [0, 1, 8, 10]), (24, [12, 13, 14], [0, 10])] [6] [.int .u32 possible, .int .i64 n] H R = F_law22_InterruptsBalance R possible n H := by kernel_rfl

theorem F_law22_InterruptsBalance_ok {R : Value → Heap → Prop} (possible : Int) (n : Int) {H : Heap} (h : F_law22_InterruptsBalance R possible n H) : CallsH Tryd.prog n_law22_InterruptsBalance #[.int .u32 possible, .int .i64 n] H R :=
  wpF_ok Tryd.func3 (F_law22_InterruptsBalance_eq R possible n H) h

/-! ### 4: platformfw/platformfwlaw22.InterruptsConnect -/

def F_law22_InterruptsConnect_r1 (R : Value → Heap → Prop) (H : Heap) (t : Sl) (I_ : Int → Heap → Prop) (M_ : Int → Heap → Nat) (k : Int) (H3 : Heap) : Prop :=
  iteB (decide (k < (2 : Int))) (
  ∃ x : Int, rd H3 (⟨H.size, 0, none⟩ : Addr) = some (.int .i64 x) ∧ ∃ x1 : Sl, rd H3 ((⟨H.size, 0, none⟩ : Addr).add 1) = some (.slice x1.p x1.n x1.c) ∧ ∃ x2 : Sl, rd H3 ((⟨H.size, 0, none⟩ : Addr).add 2) = some (.slice x2.p x2.n x2.c) ∧ ∃ x3 : Sl, rd H3 ((⟨H.size, 0, none⟩ : Addr).add 3) = some (.slice x3.p x3.n x3.c) ∧ ∃ x4 : Sl, rd H3 ((⟨H.size, 0, none⟩ : Addr).add 4) = some (.slice x4.p x4.n x4.c) ∧ ∃ x5 : Sl, rd H3 ((⟨H.size, 0, none⟩ : Addr).add 5) = some (.slice x5.p x5.n x5.c) ∧ ∃ x6 : Sl, rd H3 ((⟨H.size, 0, none⟩ : Addr).add 6) = some (.slice x6.p x6.n x6.c) ∧ ∃ x7 : Sl, rd H3 ((⟨H.size, 0, none⟩ : Addr).add 7) = some (.slice x7.p x7.n x7.c) ∧ (
  CallsH Tryd.prog n_interrupts_Connect #[.slice t.p t.n t.c, .agg #[.int .i64 x, .slice x1.p x1.n x1.c, .slice x2.p x2.n x2.c, .slice x3.p x3.n x3.c, .slice x4.p x4.n x4.c, .slice x5.p x5.n x5.c, .slice x6.p x6.n x6.c, .slice x7.p x7.n x7.c]] H3 (fun v1 H4 =>
  ∃ x8 : Sl, ∃ x9 : Int, v1 = .tuple #[.slice x8.p x8.n x8.c, .int .i64 x9] ∧ (
  ∃ x10 : Int, rd H4 (⟨H.size, 0, none⟩ : Addr) = some (.int .i64 x10) ∧ ∃ x11 : Sl, rd H4 ((⟨H.size, 0, none⟩ : Addr).add 1) = some (.slice x11.p x11.n x11.c) ∧ ∃ x12 : Sl, rd H4 ((⟨H.size, 0, none⟩ : Addr).add 2) = some (.slice x12.p x12.n x12.c) ∧ ∃ x13 : Sl, rd H4 ((⟨H.size, 0, none⟩ : Addr).add 3) = some (.slice x13.p x13.n x13.c) ∧ ∃ x14 : Sl, rd H4 ((⟨H.size, 0, none⟩ : Addr).add 4) = some (.slice x14.p x14.n x14.c) ∧ ∃ x15 : Sl, rd H4 ((⟨H.size, 0, none⟩ : Addr).add 5) = some (.slice x15.p x15.n x15.c) ∧ ∃ x16 : Sl, rd H4 ((⟨H.size, 0, none⟩ : Addr).add 6) = some (.slice x16.p x16.n x16.c) ∧ ∃ x17 : Sl, rd H4 ((⟨H.size, 0, none⟩ : Addr).add 7) = some (.slice x17.p x17.n x17.c) ∧ (
  CallsH Tryd.prog n_ref21_Connect #[.slice t.p t.n t.c, .agg #[.int .i64 x10, .slice x11.p x11.n x11.c, .slice x12.p x12.n x12.c, .slice x13.p x13.n x13.c, .slice x14.p x14.n x14.c, .slice x15.p x15.n x15.c, .slice x16.p x16.n x16.c, .slice x17.p x17.n x17.c]] H4 (fun v2 H5 =>
  ∃ x18 : Sl, ∃ x19 : Int, v2 = .tuple #[.slice x18.p x18.n x18.c, .int .i64 x19] ∧ (
  ∃ x20 : Int, rd H5 (⟨H.size, 0, none⟩ : Addr) = some (.int .i64 x20) ∧ ∃ x21 : Sl, rd H5 ((⟨H.size, 0, none⟩ : Addr).add 1) = some (.slice x21.p x21.n x21.c) ∧ ∃ x22 : Sl, rd H5 ((⟨H.size, 0, none⟩ : Addr).add 2) = some (.slice x22.p x22.n x22.c) ∧ ∃ x23 : Sl, rd H5 ((⟨H.size, 0, none⟩ : Addr).add 3) = some (.slice x23.p x23.n x23.c) ∧ ∃ x24 : Sl, rd H5 ((⟨H.size, 0, none⟩ : Addr).add 4) = some (.slice x24.p x24.n x24.c) ∧ ∃ x25 : Sl, rd H5 ((⟨H.size, 0, none⟩ : Addr).add 5) = some (.slice x25.p x25.n x25.c) ∧ ∃ x26 : Sl, rd H5 ((⟨H.size, 0, none⟩ : Addr).add 6) = some (.slice x26.p x26.n x26.c) ∧ ∃ x27 : Sl, rd H5 ((⟨H.size, 0, none⟩ : Addr).add 7) = some (.slice x27.p x27.n x27.c) ∧ (
  CallsH Tryd.prog n_interrupts_Lines #[.slice t.p t.n t.c, .agg #[.int .i64 x20, .slice x21.p x21.n x21.c, .slice x22.p x22.n x22.c, .slice x23.p x23.n x23.c, .slice x24.p x24.n x24.c, .slice x25.p x25.n x25.c, .slice x26.p x26.n x26.c, .slice x27.p x27.n x27.c]] H5 (fun v3 H6 =>
  ∃ x28 : Sl, ∃ x29 : Int, v3 = .tuple #[.slice x28.p x28.n x28.c, .int .i64 x29] ∧ (
  ∃ x30 : Int, rd H6 (⟨H.size, 0, none⟩ : Addr) = some (.int .i64 x30) ∧ ∃ x31 : Sl, rd H6 ((⟨H.size, 0, none⟩ : Addr).add 1) = some (.slice x31.p x31.n x31.c) ∧ ∃ x32 : Sl, rd H6 ((⟨H.size, 0, none⟩ : Addr).add 2) = some (.slice x32.p x32.n x32.c) ∧ ∃ x33 : Sl, rd H6 ((⟨H.size, 0, none⟩ : Addr).add 3) = some (.slice x33.p x33.n x33.c) ∧ ∃ x34 : Sl, rd H6 ((⟨H.size, 0, none⟩ : Addr).add 4) = some (.slice x34.p x34.n x34.c) ∧ ∃ x35 : Sl, rd H6 ((⟨H.size, 0, none⟩ : Addr).add 5) = some (.slice x35.p x35.n x35.c) ∧ ∃ x36 : Sl, rd H6 ((⟨H.size, 0, none⟩ : Addr).add 6) = some (.slice x36.p x36.n x36.c) ∧ ∃ x37 : Sl, rd H6 ((⟨H.size, 0, none⟩ : Addr).add 7) = some (.slice x37.p x37.n x37.c) ∧ (
  CallsH Tryd.prog n_ref21_Lines #[.slice t.p t.n t.c, .agg #[.int .i64 x30, .slice x31.p x31.n x31.c, .slice x32.p x32.n x32.c, .slice x33.p x33.n x33.c, .slice x34.p x34.n x34.c, .slice x35.p x35.n x35.c, .slice x36.p x36.n x36.c, .slice x37.p x37.n x37.c]] H6 (fun v4 H7 =>
  ∃ x38 : Sl, ∃ x39 : Int, v4 = .tuple #[.slice x38.p x38.n x38.c, .int .i64 x39] ∧ (
  CallsH Tryd.prog n_help_Equal_int #[.slice x8.p x8.n x8.c, .slice x18.p x18.n x18.c] H7 (fun v5 H8 =>
  ∃ x40 : Bool, v5 = .bool x40 ∧ (
  iteB (!x40) (
  R (.bool false) H8) (
  iteB (x9 != x19) (
  R (.bool false) H8) (
  CallsH Tryd.prog n_help_Equal_int #[.slice x28.p x28.n x28.c, .slice x38.p x38.n x38.c] H8 (fun v6 H9 =>
  ∃ x41 : Bool, v6 = .bool x41 ∧ (
  iteB (!x41) (
  R (.bool false) H9) (
  iteB (x29 != x39) (
  R (.bool false) H9) (
  ∃ x42 : Int, rd H9 (⟨H.size, 0, none⟩ : Addr) = some (.int .i64 x42) ∧ ∃ x43 : Sl, rd H9 ((⟨H.size, 0, none⟩ : Addr).add 1) = some (.slice x43.p x43.n x43.c) ∧ ∃ x44 : Sl, rd H9 ((⟨H.size, 0, none⟩ : Addr).add 2) = some (.slice x44.p x44.n x44.c) ∧ ∃ x45 : Sl, rd H9 ((⟨H.size, 0, none⟩ : Addr).add 3) = some (.slice x45.p x45.n x45.c) ∧ ∃ x46 : Sl, rd H9 ((⟨H.size, 0, none⟩ : Addr).add 4) = some (.slice x46.p x46.n x46.c) ∧ ∃ x47 : Sl, rd H9 ((⟨H.size, 0, none⟩ : Addr).add 5) = some (.slice x47.p x47.n x47.c) ∧ ∃ x48 : Sl, rd H9 ((⟨H.size, 0, none⟩ : Addr).add 6) = some (.slice x48.p x48.n x48.c) ∧ ∃ x49 : Sl, rd H9 ((⟨H.size, 0, none⟩ : Addr).add 7) = some (.slice x49.p x49.n x49.c) ∧ (
  CallsH Tryd.prog n_gen_Host #[.agg #[.int .i64 x42, .slice x43.p x43.n x43.c, .slice x44.p x44.n x44.c, .slice x45.p x45.n x45.c, .slice x46.p x46.n x46.c, .slice x47.p x47.n x47.c, .slice x48.p x48.n x48.c, .slice x49.p x49.n x49.c]] H9 (fun v7 H10 =>
  ∃ x50 : Int, ∃ x51 : Sl, ∃ x52 : Sl, ∃ x53 : Sl, ∃ x54 : Sl, ∃ x55 : Sl, ∃ x56 : Sl, ∃ x57 : Sl, v7 = .agg #[.int .i64 x50, .slice x51.p x51.n x51.c, .slice x52.p x52.n x52.c, .slice x53.p x53.n x53.c, .slice x54.p x54.n x54.c, .slice x55.p x55.n x55.c, .slice x56.p x56.n x56.c, .slice x57.p x57.n x57.c] ∧ (
  okRow H10 (⟨H.size, 0, none⟩ : Addr) 8 ∧ (
  letH (wrs H10 (⟨H.size, 0, none⟩ : Addr) [.int .i64 x50, .slice x51.p x51.n x51.c, .slice x52.p x52.n x52.c, .slice x53.p x53.n x53.c, .slice x54.p x54.n x54.c, .slice x55.p x55.n x55.c, .slice x56.p x56.n x56.c, .slice x57.p x57.n x57.c]) (fun H11 : Heap =>
  letV (IntKind.i64.wrap (k + (1 : Int))) (fun k1 : Int =>
  I_ k1 H11 ∧ M_ k1 H11 < M_ k H3))))))))))))))))))))))))))) (
  CallsH Tryd.prog n_law22_awake #[] H3 (fun v8 H12 =>
  ∃ x58 : Bool, v8 = .bool x58 ∧ (
  R (.bool x58) H12)))

def F_law22_InterruptsConnect (R : Value → Heap → Prop) (l : Sl) (h_0 : Int) (h_1 : Sl) (h_2 : Sl) (h_3 : Sl) (h_4 : Sl) (h_5 : Sl) (h_6 : Sl) (h_7 : Sl) (H : Heap) : Prop :=
  letH (H.push (.cells #[.int .i64 h_0, .slice h_1.p h_1.n h_1.c, .slice h_2.p h_2.n h_2.c, .slice h_3.p h_3.n h_3.c, .slice h_4.p h_4.n h_4.c, .slice h_5.p h_5.n h_5.c, .slice h_6.p h_6.n h_6.c, .slice h_7.p h_7.n h_7.c] t_api_Host (0, 0))) (fun H1 : Heap =>
  CallsH Tryd.prog n_gen_Topology #[.slice l.p l.n l.c, .int .i64 (30 : Int)] H1 (fun v H2 =>
  ∃ t : Sl, v = .slice t.p t.n t.c ∧ (
  ∃ I_ : Int → Heap → Prop, ∃ M_ : Int → Heap → Nat, I_ (0 : Int) H2 ∧ (∀ k : Int, ∀ H3 : Heap, I_ k H3 → F_law22_InterruptsConnect_r1 R H t I_ M_ k H3))))

theorem F_law22_InterruptsConnect_eq (R : Value → Heap → Prop) (l : Sl) (h_0 : Int) (h_1 : Sl) (h_2 : Sl) (h_3 : Sl) (h_4 : Sl) (h_5 : Sl) (h_6 : Sl) (h_7 : Sl) (H : Heap) : wpF Tryd.prog Tryd.f4 [(6, .int .i64 0)] [] [(3, [6], [3, 5])] [6] [.slice l.p l.n l.c, .agg #[.int .i64 h_0, .slice h_1.p h_1.n h_1.c, .slice h_2.p h_2.n h_2.c, .slice h_3.p h_3.n h_3.c, .slice h_4.p h_4.n h_4.c, .slice h_5.p h_5.n h_5.c, .slice h_6.p h_6.n h_6.c, .slice h_7.p h_7.n h_7.c]] H R = F_law22_InterruptsConnect R l h_0 h_1 h_2 h_3 h_4 h_5 h_6 h_7 H := by kernel_rfl

theorem F_law22_InterruptsConnect_ok {R : Value → Heap → Prop} (l : Sl) (h_0 : Int) (h_1 : Sl) (h_2 : Sl) (h_3 : Sl) (h_4 : Sl) (h_5 : Sl) (h_6 : Sl) (h_7 : Sl) {H : Heap} (h : F_law22_InterruptsConnect R l h_0 h_1 h_2 h_3 h_4 h_5 h_6 h_7 H) : CallsH Tryd.prog n_law22_InterruptsConnect #[.slice l.p l.n l.c, .agg #[.int .i64 h_0, .slice h_1.p h_1.n h_1.c, .slice h_2.p h_2.n h_2.c, .slice h_3.p h_3.n h_3.c, .slice h_4.p h_4.n h_4.c, .slice h_5.p h_5.n h_5.c, .slice h_6.p h_6.n h_6.c, .slice h_7.p h_7.n h_7.c]] H R :=
  wpF_ok Tryd.func4 (F_law22_InterruptsConnect_eq R l h_0 h_1 h_2 h_3 h_4 h_5 h_6 h_7 H) h

/-! ### 5: platformfw/platformfwlaw22.InterruptsSharing -/

def F_law22_InterruptsSharing_r1 (R : Value → Heap → Prop) (t : Sl) (H3 : Heap) (x24 : Sl) (I_ : Int → Heap → Prop) (M_ : Int → Heap → Nat) (i : Int) (H10 : Heap) (x37 : Int) (I_1 : Int → Heap → Prop) (M_1 : Int → Heap → Nat) (j : Int) (H12 : Heap) : Prop :=
  iteB (decide (j < i)) (
  ∃ x45 : Int, rd H12 (⟨H3.size, 0, none⟩ : Addr) = some (.int .i64 x45) ∧ ∃ x46 : Sl, rd H12 ((⟨H3.size, 0, none⟩ : Addr).add 1) = some (.slice x46.p x46.n x46.c) ∧ ∃ x47 : Sl, rd H12 ((⟨H3.size, 0, none⟩ : Addr).add 2) = some (.slice x47.p x47.n x47.c) ∧ ∃ x48 : Sl, rd H12 ((⟨H3.size, 0, none⟩ : Addr).add 3) = some (.slice x48.p x48.n x48.c) ∧ ∃ x49 : Sl, rd H12 ((⟨H3.size, 0, none⟩ : Addr).add 4) = some (.slice x49.p x49.n x49.c) ∧ ∃ x50 : Sl, rd H12 ((⟨H3.size, 0, none⟩ : Addr).add 5) = some (.slice x50.p x50.n x50.c) ∧ ∃ x51 : Sl, rd H12 ((⟨H3.size, 0, none⟩ : Addr).add 6) = some (.slice x51.p x51.n x51.c) ∧ ∃ x52 : Sl, rd H12 ((⟨H3.size, 0, none⟩ : Addr).add 7) = some (.slice x52.p x52.n x52.c) ∧ (
  CallsH Tryd.prog n_ref21_LinkOf #[.slice t.p t.n t.c, .agg #[.int .i64 x45, .slice x46.p x46.n x46.c, .slice x47.p x47.n x47.c, .slice x48.p x48.n x48.c, .slice x49.p x49.n x49.c, .slice x50.p x50.n x50.c, .slice x51.p x51.n x51.c, .slice x52.p x52.n x52.c], .int .i64 j] H12 (fun v6 H13 =>
  ∃ x53 : Int, ∃ x54 : Bool, v6 = .tuple #[.int .i64 x53, .bool x54] ∧ (
  iteB x54 (
  iteB (x53 == x37) (
  0 ≤ j ∧ j < (x24.n : Int) ∧ (unSome x24.p (fun a5 =>
  ∃ x55 : Int, rd H13 (a5.add (j.toNat * 1)) = some (.int .i64 x55) ∧ (
  0 ≤ i ∧ i < (x24.n : Int) ∧ (unSome x24.p (fun a6 =>
  ∃ x56 : Int, rd H13 (a6.add (i.toNat * 1)) = some (.int .i64 x56) ∧ (
  iteB (x55 != x56) (
  R (.bool false) H13) (
  letV (IntKind.i64.wrap (j + (1 : Int))) (fun j1 : Int =>
  I_1 j1 H13 ∧ M_1 j1 H13 < M_1 j H12))))))))) (
  letV (IntKind.i64.wrap (j + (1 : Int))) (fun j2 : Int =>
  I_1 j2 H13 ∧ M_1 j2 H13 < M_1 j H12))) (
  letV (IntKind.i64.wrap (j + (1 : Int))) (fun j3 : Int =>
  I_1 j3 H13 ∧ M_1 j3 H13 < M_1 j H12)))))) (
  letV (IntKind.i64.wrap (i + (1 : Int))) (fun i2 : Int =>
  I_ i2 H12 ∧ M_ i2 H12 < M_ i H10))

def F_law22_InterruptsSharing_r2 (R : Value → Heap → Prop) (t : Sl) (H3 : Heap) (x24 : Sl) (I_ : Int → Heap → Prop) (M_ : Int → Heap → Nat) (i : Int) (H10 : Heap) : Prop :=
  iteB (decide (i < (t.n : Int))) (
  ∃ x29 : Int, rd H10 (⟨H3.size, 0, none⟩ : Addr) = some (.int .i64 x29) ∧ ∃ x30 : Sl, rd H10 ((⟨H3.size, 0, none⟩ : Addr).add 1) = some (.slice x30.p x30.n x30.c) ∧ ∃ x31 : Sl, rd H10 ((⟨H3.size, 0, none⟩ : Addr).add 2) = some (.slice x31.p x31.n x31.c) ∧ ∃ x32 : Sl, rd H10 ((⟨H3.size, 0, none⟩ : Addr).add 3) = some (.slice x32.p x32.n x32.c) ∧ ∃ x33 : Sl, rd H10 ((⟨H3.size, 0, none⟩ : Addr).add 4) = some (.slice x33.p x33.n x33.c) ∧ ∃ x34 : Sl, rd H10 ((⟨H3.size, 0, none⟩ : Addr).add 5) = some (.slice x34.p x34.n x34.c) ∧ ∃ x35 : Sl, rd H10 ((⟨H3.size, 0, none⟩ : Addr).add 6) = some (.slice x35.p x35.n x35.c) ∧ ∃ x36 : Sl, rd H10 ((⟨H3.size, 0, none⟩ : Addr).add 7) = some (.slice x36.p x36.n x36.c) ∧ (
  CallsH Tryd.prog n_ref21_LinkOf #[.slice t.p t.n t.c, .agg #[.int .i64 x29, .slice x30.p x30.n x30.c, .slice x31.p x31.n x31.c, .slice x32.p x32.n x32.c, .slice x33.p x33.n x33.c, .slice x34.p x34.n x34.c, .slice x35.p x35.n x35.c, .slice x36.p x36.n x36.c], .int .i64 i] H10 (fun v5 H11 =>
  ∃ x37 : Int, ∃ x38 : Bool, v5 = .tuple #[.int .i64 x37, .bool x38] ∧ (
  iteB (!x38) (
  0 ≤ i ∧ i < (x24.n : Int) ∧ (unSome x24.p (fun a =>
  ∃ x39 : Int, rd H11 (a.add (i.toNat * 1)) = some (.int .i64 x39) ∧ (
  iteB (x39 != (-1 : Int)) (
  R (.bool false) H11) (
  letV (IntKind.i64.wrap (i + (1 : Int))) (fun i1 : Int =>
  I_ i1 H11 ∧ M_ i1 H11 < M_ i H10)))))) (
  0 ≤ i ∧ i < (x24.n : Int) ∧ (unSome x24.p (fun a1 =>
  ∃ x40 : Int, rd H11 (a1.add (i.toNat * 1)) = some (.int .i64 x40) ∧ (
  iteB (decide (x40 < (0 : Int))) (
  R (.bool false) H11) (
  0 ≤ i ∧ i < (x24.n : Int) ∧ (unSome x24.p (fun a2 =>
  ∃ x41 : Int, rd H11 (a2.add (i.toNat * 1)) = some (.int .i64 x41) ∧ (
  iteB (decide (x41 > (31 : Int))) (
  R (.bool false) H11) (
  ∃ x42 : Sl, rd H11 ((⟨H3.size, 0, none⟩ : Addr).add 6) = some (.slice x42.p x42.n x42.c) ∧ (
  0 ≤ x37 ∧ x37 < (x42.n : Int) ∧ (unSome x42.p (fun a3 =>
  ∃ x43 : Int, rd H11 (a3.add (x37.toNat * 1)) = some (.int .u32 x43) ∧ (
  0 ≤ i ∧ i < (x24.n : Int) ∧ (unSome x24.p (fun a4 =>
  ∃ x44 : Int, rd H11 (a4.add (i.toNat * 1)) = some (.int .i64 x44) ∧ (
  0 ≤ (IntKind.u64.wrap x44) ∧ (
  iteB ((bitsAnd .u32 (x43.fdiv (2 ^ (min (IntKind.u64.wrap x44).toNat IntKind.u32.bits))) (1 : Int)) == (0 : Int)) (
  R (.bool false) H11) (
  ∃ I_1 : Int → Heap → Prop, ∃ M_1 : Int → Heap → Nat, I_1 (0 : Int) H11 ∧ (∀ j : Int, ∀ H12 : Heap, I_1 j H12 → F_law22_InterruptsSharing_r1 R t H3 x24 I_ M_ i H10 x37 I_1 M_1 j H12))))))))))))))))))))))) (
  R (.bool true) H10)

def F_law22_InterruptsSharing_k3 (R : Value → Heap → Prop) (t : Sl) (H3 : Heap) (x24 : Sl) (x25 : Int) (x27 : Bool) (H8 : Heap) : Prop :=
  iteB x27 (
  iteB (x25 == (19 : Int)) (
  CallsH Tryd.prog n_law22_awake #[] H8 (fun v4 H9 =>
  ∃ x28 : Bool, v4 = .bool x28 ∧ (
  R (.bool x28) H9))) (
  R (.bool false) H8)) (
  ∃ I_ : Int → Heap → Prop, ∃ M_ : Int → Heap → Nat, I_ (0 : Int) H8 ∧ (∀ i : Int, ∀ H10 : Heap, I_ i H10 → F_law22_InterruptsSharing_r2 R t H3 x24 I_ M_ i H10))

def F_law22_InterruptsSharing_r4 (R : Value → Heap → Prop) (H2 : Heap) (t : Sl) (x73 : Sl) (I_2 : Int → Heap → Prop) (M_2 : Int → Heap → Nat) (i3 : Int) (H21 : Heap) (x86 : Int) (I_3 : Int → Heap → Prop) (M_3 : Int → Heap → Nat) (j4 : Int) (H23 : Heap) : Prop :=
  iteB (decide (j4 < i3)) (
  ∃ x94 : Int, rd H23 (⟨H2.size, 0, none⟩ : Addr) = some (.int .i64 x94) ∧ ∃ x95 : Sl, rd H23 ((⟨H2.size, 0, none⟩ : Addr).add 1) = some (.slice x95.p x95.n x95.c) ∧ ∃ x96 : Sl, rd H23 ((⟨H2.size, 0, none⟩ : Addr).add 2) = some (.slice x96.p x96.n x96.c) ∧ ∃ x97 : Sl, rd H23 ((⟨H2.size, 0, none⟩ : Addr).add 3) = some (.slice x97.p x97.n x97.c) ∧ ∃ x98 : Sl, rd H23 ((⟨H2.size, 0, none⟩ : Addr).add 4) = some (.slice x98.p x98.n x98.c) ∧ ∃ x99 : Sl, rd H23 ((⟨H2.size, 0, none⟩ : Addr).add 5) = some (.slice x99.p x99.n x99.c) ∧ ∃ x100 : Sl, rd H23 ((⟨H2.size, 0, none⟩ : Addr).add 6) = some (.slice x100.p x100.n x100.c) ∧ ∃ x101 : Sl, rd H23 ((⟨H2.size, 0, none⟩ : Addr).add 7) = some (.slice x101.p x101.n x101.c) ∧ (
  CallsH Tryd.prog n_ref21_LinkOf #[.slice t.p t.n t.c, .agg #[.int .i64 x94, .slice x95.p x95.n x95.c, .slice x96.p x96.n x96.c, .slice x97.p x97.n x97.c, .slice x98.p x98.n x98.c, .slice x99.p x99.n x99.c, .slice x100.p x100.n x100.c, .slice x101.p x101.n x101.c], .int .i64 j4] H23 (fun v12 H24 =>
  ∃ x102 : Int, ∃ x103 : Bool, v12 = .tuple #[.int .i64 x102, .bool x103] ∧ (
  iteB x103 (
  iteB (x102 == x86) (
  0 ≤ j4 ∧ j4 < (x73.n : Int) ∧ (unSome x73.p (fun a12 =>
  ∃ x104 : Int, rd H24 (a12.add (j4.toNat * 1)) = some (.int .i64 x104) ∧ (
  0 ≤ i3 ∧ i3 < (x73.n : Int) ∧ (unSome x73.p (fun a13 =>
  ∃ x105 : Int, rd H24 (a13.add (i3.toNat * 1)) = some (.int .i64 x105) ∧ (
  iteB (x104 != x105) (
  R (.bool false) H24) (
  letV (IntKind.i64.wrap (j4 + (1 : Int))) (fun j5 : Int =>
  I_3 j5 H24 ∧ M_3 j5 H24 < M_3 j4 H23))))))))) (
  letV (IntKind.i64.wrap (j4 + (1 : Int))) (fun j6 : Int =>
  I_3 j6 H24 ∧ M_3 j6 H24 < M_3 j4 H23))) (
  letV (IntKind.i64.wrap (j4 + (1 : Int))) (fun j7 : Int =>
  I_3 j7 H24 ∧ M_3 j7 H24 < M_3 j4 H23)))))) (
  letV (IntKind.i64.wrap (i3 + (1 : Int))) (fun i5 : Int =>
  I_2 i5 H23 ∧ M_2 i5 H23 < M_2 i3 H21))

def F_law22_InterruptsSharing_r5 (R : Value → Heap → Prop) (H2 : Heap) (t : Sl) (x73 : Sl) (I_2 : Int → Heap → Prop) (M_2 : Int → Heap → Nat) (i3 : Int) (H21 : Heap) : Prop :=
  iteB (decide (i3 < (t.n : Int))) (
  ∃ x78 : Int, rd H21 (⟨H2.size, 0, none⟩ : Addr) = some (.int .i64 x78) ∧ ∃ x79 : Sl, rd H21 ((⟨H2.size, 0, none⟩ : Addr).add 1) = some (.slice x79.p x79.n x79.c) ∧ ∃ x80 : Sl, rd H21 ((⟨H2.size, 0, none⟩ : Addr).add 2) = some (.slice x80.p x80.n x80.c) ∧ ∃ x81 : Sl, rd H21 ((⟨H2.size, 0, none⟩ : Addr).add 3) = some (.slice x81.p x81.n x81.c) ∧ ∃ x82 : Sl, rd H21 ((⟨H2.size, 0, none⟩ : Addr).add 4) = some (.slice x82.p x82.n x82.c) ∧ ∃ x83 : Sl, rd H21 ((⟨H2.size, 0, none⟩ : Addr).add 5) = some (.slice x83.p x83.n x83.c) ∧ ∃ x84 : Sl, rd H21 ((⟨H2.size, 0, none⟩ : Addr).add 6) = some (.slice x84.p x84.n x84.c) ∧ ∃ x85 : Sl, rd H21 ((⟨H2.size, 0, none⟩ : Addr).add 7) = some (.slice x85.p x85.n x85.c) ∧ (
  CallsH Tryd.prog n_ref21_LinkOf #[.slice t.p t.n t.c, .agg #[.int .i64 x78, .slice x79.p x79.n x79.c, .slice x80.p x80.n x80.c, .slice x81.p x81.n x81.c, .slice x82.p x82.n x82.c, .slice x83.p x83.n x83.c, .slice x84.p x84.n x84.c, .slice x85.p x85.n x85.c], .int .i64 i3] H21 (fun v11 H22 =>
  ∃ x86 : Int, ∃ x87 : Bool, v11 = .tuple #[.int .i64 x86, .bool x87] ∧ (
  iteB (!x87) (
  0 ≤ i3 ∧ i3 < (x73.n : Int) ∧ (unSome x73.p (fun a7 =>
  ∃ x88 : Int, rd H22 (a7.add (i3.toNat * 1)) = some (.int .i64 x88) ∧ (
  iteB (x88 != (-1 : Int)) (
  R (.bool false) H22) (
  letV (IntKind.i64.wrap (i3 + (1 : Int))) (fun i4 : Int =>
  I_2 i4 H22 ∧ M_2 i4 H22 < M_2 i3 H21)))))) (
  0 ≤ i3 ∧ i3 < (x73.n : Int) ∧ (unSome x73.p (fun a8 =>
  ∃ x89 : Int, rd H22 (a8.add (i3.toNat * 1)) = some (.int .i64 x89) ∧ (
  iteB (decide (x89 < (0 : Int))) (
  R (.bool false) H22) (
  0 ≤ i3 ∧ i3 < (x73.n : Int) ∧ (unSome x73.p (fun a9 =>
  ∃ x90 : Int, rd H22 (a9.add (i3.toNat * 1)) = some (.int .i64 x90) ∧ (
  iteB (decide (x90 > (31 : Int))) (
  R (.bool false) H22) (
  ∃ x91 : Sl, rd H22 ((⟨H2.size, 0, none⟩ : Addr).add 6) = some (.slice x91.p x91.n x91.c) ∧ (
  0 ≤ x86 ∧ x86 < (x91.n : Int) ∧ (unSome x91.p (fun a10 =>
  ∃ x92 : Int, rd H22 (a10.add (x86.toNat * 1)) = some (.int .u32 x92) ∧ (
  0 ≤ i3 ∧ i3 < (x73.n : Int) ∧ (unSome x73.p (fun a11 =>
  ∃ x93 : Int, rd H22 (a11.add (i3.toNat * 1)) = some (.int .i64 x93) ∧ (
  0 ≤ (IntKind.u64.wrap x93) ∧ (
  iteB ((bitsAnd .u32 (x92.fdiv (2 ^ (min (IntKind.u64.wrap x93).toNat IntKind.u32.bits))) (1 : Int)) == (0 : Int)) (
  R (.bool false) H22) (
  ∃ I_3 : Int → Heap → Prop, ∃ M_3 : Int → Heap → Nat, I_3 (0 : Int) H22 ∧ (∀ j4 : Int, ∀ H23 : Heap, I_3 j4 H23 → F_law22_InterruptsSharing_r4 R H2 t x73 I_2 M_2 i3 H21 x86 I_3 M_3 j4 H23))))))))))))))))))))))) (
  R (.bool true) H21)

def F_law22_InterruptsSharing_k6 (R : Value → Heap → Prop) (H2 : Heap) (t : Sl) (x73 : Sl) (x74 : Int) (x76 : Bool) (H19 : Heap) : Prop :=
  iteB x76 (
  iteB (x74 == (19 : Int)) (
  CallsH Tryd.prog n_law22_awake #[] H19 (fun v10 H20 =>
  ∃ x77 : Bool, v10 = .bool x77 ∧ (
  R (.bool x77) H20))) (
  R (.bool false) H19)) (
  ∃ I_2 : Int → Heap → Prop, ∃ M_2 : Int → Heap → Nat, I_2 (0 : Int) H19 ∧ (∀ i3 : Int, ∀ H21 : Heap, I_2 i3 H21 → F_law22_InterruptsSharing_r5 R H2 t x73 I_2 M_2 i3 H21))

def F_law22_InterruptsSharing_r7 (R : Value → Heap → Prop) (H1 : Heap) (t1 : Sl) (x122 : Sl) (I_4 : Int → Heap → Prop) (M_4 : Int → Heap → Nat) (i6 : Int) (H33 : Heap) (x135 : Int) (I_5 : Int → Heap → Prop) (M_5 : Int → Heap → Nat) (j8 : Int) (H35 : Heap) : Prop :=
  iteB (decide (j8 < i6)) (
  ∃ x143 : Int, rd H35 (⟨H1.size, 0, none⟩ : Addr) = some (.int .i64 x143) ∧ ∃ x144 : Sl, rd H35 ((⟨H1.size, 0, none⟩ : Addr).add 1) = some (.slice x144.p x144.n x144.c) ∧ ∃ x145 : Sl, rd H35 ((⟨H1.size, 0, none⟩ : Addr).add 2) = some (.slice x145.p x145.n x145.c) ∧ ∃ x146 : Sl, rd H35 ((⟨H1.size, 0, none⟩ : Addr).add 3) = some (.slice x146.p x146.n x146.c) ∧ ∃ x147 : Sl, rd H35 ((⟨H1.size, 0, none⟩ : Addr).add 4) = some (.slice x147.p x147.n x147.c) ∧ ∃ x148 : Sl, rd H35 ((⟨H1.size, 0, none⟩ : Addr).add 5) = some (.slice x148.p x148.n x148.c) ∧ ∃ x149 : Sl, rd H35 ((⟨H1.size, 0, none⟩ : Addr).add 6) = some (.slice x149.p x149.n x149.c) ∧ ∃ x150 : Sl, rd H35 ((⟨H1.size, 0, none⟩ : Addr).add 7) = some (.slice x150.p x150.n x150.c) ∧ (
  CallsH Tryd.prog n_ref21_LinkOf #[.slice t1.p t1.n t1.c, .agg #[.int .i64 x143, .slice x144.p x144.n x144.c, .slice x145.p x145.n x145.c, .slice x146.p x146.n x146.c, .slice x147.p x147.n x147.c, .slice x148.p x148.n x148.c, .slice x149.p x149.n x149.c, .slice x150.p x150.n x150.c], .int .i64 j8] H35 (fun v19 H36 =>
  ∃ x151 : Int, ∃ x152 : Bool, v19 = .tuple #[.int .i64 x151, .bool x152] ∧ (
  iteB x152 (
  iteB (x151 == x135) (
  0 ≤ j8 ∧ j8 < (x122.n : Int) ∧ (unSome x122.p (fun a19 =>
  ∃ x153 : Int, rd H36 (a19.add (j8.toNat * 1)) = some (.int .i64 x153) ∧ (
  0 ≤ i6 ∧ i6 < (x122.n : Int) ∧ (unSome x122.p (fun a20 =>
  ∃ x154 : Int, rd H36 (a20.add (i6.toNat * 1)) = some (.int .i64 x154) ∧ (
  iteB (x153 != x154) (
  R (.bool false) H36) (
  letV (IntKind.i64.wrap (j8 + (1 : Int))) (fun j9 : Int =>
  I_5 j9 H36 ∧ M_5 j9 H36 < M_5 j8 H35))))))))) (
  letV (IntKind.i64.wrap (j8 + (1 : Int))) (fun j10 : Int =>
  I_5 j10 H36 ∧ M_5 j10 H36 < M_5 j8 H35))) (
  letV (IntKind.i64.wrap (j8 + (1 : Int))) (fun j11 : Int =>
  I_5 j11 H36 ∧ M_5 j11 H36 < M_5 j8 H35)))))) (
  letV (IntKind.i64.wrap (i6 + (1 : Int))) (fun i8 : Int =>
  I_4 i8 H35 ∧ M_4 i8 H35 < M_4 i6 H33))

def F_law22_InterruptsSharing_r8 (R : Value → Heap → Prop) (H1 : Heap) (t1 : Sl) (x122 : Sl) (I_4 : Int → Heap → Prop) (M_4 : Int → Heap → Nat) (i6 : Int) (H33 : Heap) : Prop :=
  iteB (decide (i6 < (t1.n : Int))) (
  ∃ x127 : Int, rd H33 (⟨H1.size, 0, none⟩ : Addr) = some (.int .i64 x127) ∧ ∃ x128 : Sl, rd H33 ((⟨H1.size, 0, none⟩ : Addr).add 1) = some (.slice x128.p x128.n x128.c) ∧ ∃ x129 : Sl, rd H33 ((⟨H1.size, 0, none⟩ : Addr).add 2) = some (.slice x129.p x129.n x129.c) ∧ ∃ x130 : Sl, rd H33 ((⟨H1.size, 0, none⟩ : Addr).add 3) = some (.slice x130.p x130.n x130.c) ∧ ∃ x131 : Sl, rd H33 ((⟨H1.size, 0, none⟩ : Addr).add 4) = some (.slice x131.p x131.n x131.c) ∧ ∃ x132 : Sl, rd H33 ((⟨H1.size, 0, none⟩ : Addr).add 5) = some (.slice x132.p x132.n x132.c) ∧ ∃ x133 : Sl, rd H33 ((⟨H1.size, 0, none⟩ : Addr).add 6) = some (.slice x133.p x133.n x133.c) ∧ ∃ x134 : Sl, rd H33 ((⟨H1.size, 0, none⟩ : Addr).add 7) = some (.slice x134.p x134.n x134.c) ∧ (
  CallsH Tryd.prog n_ref21_LinkOf #[.slice t1.p t1.n t1.c, .agg #[.int .i64 x127, .slice x128.p x128.n x128.c, .slice x129.p x129.n x129.c, .slice x130.p x130.n x130.c, .slice x131.p x131.n x131.c, .slice x132.p x132.n x132.c, .slice x133.p x133.n x133.c, .slice x134.p x134.n x134.c], .int .i64 i6] H33 (fun v18 H34 =>
  ∃ x135 : Int, ∃ x136 : Bool, v18 = .tuple #[.int .i64 x135, .bool x136] ∧ (
  iteB (!x136) (
  0 ≤ i6 ∧ i6 < (x122.n : Int) ∧ (unSome x122.p (fun a14 =>
  ∃ x137 : Int, rd H34 (a14.add (i6.toNat * 1)) = some (.int .i64 x137) ∧ (
  iteB (x137 != (-1 : Int)) (
  R (.bool false) H34) (
  letV (IntKind.i64.wrap (i6 + (1 : Int))) (fun i7 : Int =>
  I_4 i7 H34 ∧ M_4 i7 H34 < M_4 i6 H33)))))) (
  0 ≤ i6 ∧ i6 < (x122.n : Int) ∧ (unSome x122.p (fun a15 =>
  ∃ x138 : Int, rd H34 (a15.add (i6.toNat * 1)) = some (.int .i64 x138) ∧ (
  iteB (decide (x138 < (0 : Int))) (
  R (.bool false) H34) (
  0 ≤ i6 ∧ i6 < (x122.n : Int) ∧ (unSome x122.p (fun a16 =>
  ∃ x139 : Int, rd H34 (a16.add (i6.toNat * 1)) = some (.int .i64 x139) ∧ (
  iteB (decide (x139 > (31 : Int))) (
  R (.bool false) H34) (
  ∃ x140 : Sl, rd H34 ((⟨H1.size, 0, none⟩ : Addr).add 6) = some (.slice x140.p x140.n x140.c) ∧ (
  0 ≤ x135 ∧ x135 < (x140.n : Int) ∧ (unSome x140.p (fun a17 =>
  ∃ x141 : Int, rd H34 (a17.add (x135.toNat * 1)) = some (.int .u32 x141) ∧ (
  0 ≤ i6 ∧ i6 < (x122.n : Int) ∧ (unSome x122.p (fun a18 =>
  ∃ x142 : Int, rd H34 (a18.add (i6.toNat * 1)) = some (.int .i64 x142) ∧ (
  0 ≤ (IntKind.u64.wrap x142) ∧ (
  iteB ((bitsAnd .u32 (x141.fdiv (2 ^ (min (IntKind.u64.wrap x142).toNat IntKind.u32.bits))) (1 : Int)) == (0 : Int)) (
  R (.bool false) H34) (
  ∃ I_5 : Int → Heap → Prop, ∃ M_5 : Int → Heap → Nat, I_5 (0 : Int) H34 ∧ (∀ j8 : Int, ∀ H35 : Heap, I_5 j8 H35 → F_law22_InterruptsSharing_r7 R H1 t1 x122 I_4 M_4 i6 H33 x135 I_5 M_5 j8 H35))))))))))))))))))))))) (
  R (.bool true) H33)

def F_law22_InterruptsSharing_k9 (R : Value → Heap → Prop) (H1 : Heap) (t1 : Sl) (x122 : Sl) (x123 : Int) (x125 : Bool) (H31 : Heap) : Prop :=
  iteB x125 (
  iteB (x123 == (19 : Int)) (
  CallsH Tryd.prog n_law22_awake #[] H31 (fun v17 H32 =>
  ∃ x126 : Bool, v17 = .bool x126 ∧ (
  R (.bool x126) H32))) (
  R (.bool false) H31)) (
  ∃ I_4 : Int → Heap → Prop, ∃ M_4 : Int → Heap → Nat, I_4 (0 : Int) H31 ∧ (∀ i6 : Int, ∀ H33 : Heap, I_4 i6 H33 → F_law22_InterruptsSharing_r8 R H1 t1 x122 I_4 M_4 i6 H33))

def F_law22_InterruptsSharing (R : Value → Heap → Prop) (l : Sl) (h_0 : Int) (h_1 : Sl) (h_2 : Sl) (h_3 : Sl) (h_4 : Sl) (h_5 : Sl) (h_6 : Sl) (h_7 : Sl) (H : Heap) : Prop :=
  letH (H.push (.cells #[.int .i64 h_0, .slice h_1.p h_1.n h_1.c, .slice h_2.p h_2.n h_2.c, .slice h_3.p h_3.n h_3.c, .slice h_4.p h_4.n h_4.c, .slice h_5.p h_5.n h_5.c, .slice h_6.p h_6.n h_6.c, .slice h_7.p h_7.n h_7.c] t_api_Host (0, 0))) (fun H1 : Heap =>
  ∃ x : Int, rd H1 (⟨H.size, 0, none⟩ : Addr) = some (.int .i64 x) ∧ ∃ x1 : Sl, rd H1 ((⟨H.size, 0, none⟩ : Addr).add 1) = some (.slice x1.p x1.n x1.c) ∧ ∃ x2 : Sl, rd H1 ((⟨H.size, 0, none⟩ : Addr).add 2) = some (.slice x2.p x2.n x2.c) ∧ ∃ x3 : Sl, rd H1 ((⟨H.size, 0, none⟩ : Addr).add 3) = some (.slice x3.p x3.n x3.c) ∧ ∃ x4 : Sl, rd H1 ((⟨H.size, 0, none⟩ : Addr).add 4) = some (.slice x4.p x4.n x4.c) ∧ ∃ x5 : Sl, rd H1 ((⟨H.size, 0, none⟩ : Addr).add 5) = some (.slice x5.p x5.n x5.c) ∧ ∃ x6 : Sl, rd H1 ((⟨H.size, 0, none⟩ : Addr).add 6) = some (.slice x6.p x6.n x6.c) ∧ ∃ x7 : Sl, rd H1 ((⟨H.size, 0, none⟩ : Addr).add 7) = some (.slice x7.p x7.n x7.c) ∧ (
  (
  CallsH Tryd.prog n_gen_Topology #[.slice l.p l.n l.c, .int .i64 (30 : Int)] H1 (fun v H2 =>
  ∃ t : Sl, v = .slice t.p t.n t.c ∧ (
  Keeps H1 H2 [((⟨H.size, 0, none⟩ : Addr), 8)] ∧ (
  (
  CallsH Tryd.prog n_gen_Host #[.agg #[.int .i64 x, .slice x1.p x1.n x1.c, .slice x2.p x2.n x2.c, .slice x3.p x3.n x3.c, .slice x4.p x4.n x4.c, .slice x5.p x5.n x5.c, .slice x6.p x6.n x6.c, .slice x7.p x7.n x7.c]] H2 (fun v1 H3 =>
  ∃ x8 : Int, ∃ x9 : Sl, ∃ x10 : Sl, ∃ x11 : Sl, ∃ x12 : Sl, ∃ x13 : Sl, ∃ x14 : Sl, ∃ x15 : Sl, v1 = .agg #[.int .i64 x8, .slice x9.p x9.n x9.c, .slice x10.p x10.n x10.c, .slice x11.p x11.n x11.c, .slice x12.p x12.n x12.c, .slice x13.p x13.n x13.c, .slice x14.p x14.n x14.c, .slice x15.p x15.n x15.c] ∧ (
  letH (H3.push (.cells #[.int .i64 (0 : Int), .slice none 0 0, .slice none 0 0, .slice none 0 0, .slice none 0 0, .slice none 0 0, .slice none 0 0, .slice none 0 0] t_api_Host (0, 0))) (fun H4 : Heap =>
  Keeps H3 H4 [((⟨H.size, 0, none⟩ : Addr), 8)] ∧ (
  okRow H4 (⟨H3.size, 0, none⟩ : Addr) 8 ∧ (
  letH (wrs H4 (⟨H3.size, 0, none⟩ : Addr) [.int .i64 x8, .slice x9.p x9.n x9.c, .slice x10.p x10.n x10.c, .slice x11.p x11.n x11.c, .slice x12.p x12.n x12.c, .slice x13.p x13.n x13.c, .slice x14.p x14.n x14.c, .slice x15.p x15.n x15.c]) (fun H5 : Heap =>
  ∃ x16 : Int, rd H5 (⟨H3.size, 0, none⟩ : Addr) = some (.int .i64 x16) ∧ ∃ x17 : Sl, rd H5 ((⟨H3.size, 0, none⟩ : Addr).add 1) = some (.slice x17.p x17.n x17.c) ∧ ∃ x18 : Sl, rd H5 ((⟨H3.size, 0, none⟩ : Addr).add 2) = some (.slice x18.p x18.n x18.c) ∧ ∃ x19 : Sl, rd H5 ((⟨H3.size, 0, none⟩ : Addr).add 3) = some (.slice x19.p x19.n x19.c) ∧ ∃ x20 : Sl, rd H5 ((⟨H3.size, 0, none⟩ : Addr).add 4) = some (.slice x20.p x20.n x20.c) ∧ ∃ x21 : Sl, rd H5 ((⟨H3.size, 0, none⟩ : Addr).add 5) = some (.slice x21.p x21.n x21.c) ∧ ∃ x22 : Sl, rd H5 ((⟨H3.size, 0, none⟩ : Addr).add 6) = some (.slice x22.p x22.n x22.c) ∧ ∃ x23 : Sl, rd H5 ((⟨H3.size, 0, none⟩ : Addr).add 7) = some (.slice x23.p x23.n x23.c) ∧ (
  CallsH Tryd.prog n_interrupts_Lines #[.slice t.p t.n t.c, .agg #[.int .i64 x16, .slice x17.p x17.n x17.c, .slice x18.p x18.n x18.c, .slice x19.p x19.n x19.c, .slice x20.p x20.n x20.c, .slice x21.p x21.n x21.c, .slice x22.p x22.n x22.c, .slice x23.p x23.n x23.c]] H5 (fun v2 H6 =>
  ∃ x24 : Sl, ∃ x25 : Int, v2 = .tuple #[.slice x24.p x24.n x24.c, .int .i64 x25] ∧ (
  ∃ J_ : Bool → Heap → Prop, (
  CallsH Tryd.prog n_law22_awake #[] H6 (fun v3 H7 =>
  ∃ x26 : Bool, v3 = .bool x26 ∧ (
  iteB (!x26) (
  J_ true H7) (
  iteB (x25 != (0 : Int)) (
  J_ true H7) (
  J_ ((x24.n : Int) != (t.n : Int)) H7))))) ∧ (∀ x27 : Bool, ∀ H8 : Heap, J_ x27 H8 → F_law22_InterruptsSharing_k3 R t H3 x24 x25 x27 H8))))))))))) ∧ (
  letH (H2.push (.cells #[.int .i64 (0 : Int), .slice none 0 0, .slice none 0 0, .slice none 0 0, .slice none 0 0, .slice none 0 0, .slice none 0 0, .slice none 0 0] t_api_Host (0, 0))) (fun H14 : Heap =>
  Keeps H2 H14 [((⟨H.size, 0, none⟩ : Addr), 8)] ∧ (
  CallsH Tryd.prog n_gen_Host #[.agg #[.int .i64 x, .slice x1.p x1.n x1.c, .slice x2.p x2.n x2.c, .slice x3.p x3.n x3.c, .slice x4.p x4.n x4.c, .slice x5.p x5.n x5.c, .slice x6.p x6.n x6.c, .slice x7.p x7.n x7.c]] H14 (fun v7 H15 =>
  ∃ x57 : Int, ∃ x58 : Sl, ∃ x59 : Sl, ∃ x60 : Sl, ∃ x61 : Sl, ∃ x62 : Sl, ∃ x63 : Sl, ∃ x64 : Sl, v7 = .agg #[.int .i64 x57, .slice x58.p x58.n x58.c, .slice x59.p x59.n x59.c, .slice x60.p x60.n x60.c, .slice x61.p x61.n x61.c, .slice x62.p x62.n x62.c, .slice x63.p x63.n x63.c, .slice x64.p x64.n x64.c] ∧ (
  okRow H15 (⟨H2.size, 0, none⟩ : Addr) 8 ∧ (
  letH (wrs H15 (⟨H2.size, 0, none⟩ : Addr) [.int .i64 x57, .slice x58.p x58.n x58.c, .slice x59.p x59.n x59.c, .slice x60.p x60.n x60.c, .slice x61.p x61.n x61.c, .slice x62.p x62.n x62.c, .slice x63.p x63.n x63.c, .slice x64.p x64.n x64.c]) (fun H16 : Heap =>
  ∃ x65 : Int, rd H16 (⟨H2.size, 0, none⟩ : Addr) = some (.int .i64 x65) ∧ ∃ x66 : Sl, rd H16 ((⟨H2.size, 0, none⟩ : Addr).add 1) = some (.slice x66.p x66.n x66.c) ∧ ∃ x67 : Sl, rd H16 ((⟨H2.size, 0, none⟩ : Addr).add 2) = some (.slice x67.p x67.n x67.c) ∧ ∃ x68 : Sl, rd H16 ((⟨H2.size, 0, none⟩ : Addr).add 3) = some (.slice x68.p x68.n x68.c) ∧ ∃ x69 : Sl, rd H16 ((⟨H2.size, 0, none⟩ : Addr).add 4) = some (.slice x69.p x69.n x69.c) ∧ ∃ x70 : Sl, rd H16 ((⟨H2.size, 0, none⟩ : Addr).add 5) = some (.slice x70.p x70.n x70.c) ∧ ∃ x71 : Sl, rd H16 ((⟨H2.size, 0, none⟩ : Addr).add 6) = some (.slice x71.p x71.n x71.c) ∧ ∃ x72 : Sl, rd H16 ((⟨H2.size, 0, none⟩ : Addr).add 7) = some (.slice x72.p x72.n x72.c) ∧ (
  CallsH Tryd.prog n_interrupts_Lines #[.slice t.p t.n t.c, .agg #[.int .i64 x65, .slice x66.p x66.n x66.c, .slice x67.p x67.n x67.c, .slice x68.p x68.n x68.c, .slice x69.p x69.n x69.c, .slice x70.p x70.n x70.c, .slice x71.p x71.n x71.c, .slice x72.p x72.n x72.c]] H16 (fun v8 H17 =>
  ∃ x73 : Sl, ∃ x74 : Int, v8 = .tuple #[.slice x73.p x73.n x73.c, .int .i64 x74] ∧ (
  ∃ J_1 : Bool → Heap → Prop, (
  CallsH Tryd.prog n_law22_awake #[] H17 (fun v9 H18 =>
  ∃ x75 : Bool, v9 = .bool x75 ∧ (
  iteB (!x75) (
  J_1 true H18) (
  iteB (x74 != (0 : Int)) (
  J_1 true H18) (
  J_1 ((x73.n : Int) != (t.n : Int)) H18))))) ∧ (∀ x76 : Bool, ∀ H19 : Heap, J_1 x76 H19 → F_law22_InterruptsSharing_k6 R H2 t x73 x74 x76 H19))))))))))))))) ∧ (
  letH (H1.push (.cells #[.int .i64 (0 : Int), .slice none 0 0, .slice none 0 0, .slice none 0 0, .slice none 0 0, .slice none 0 0, .slice none 0 0, .slice none 0 0] t_api_Host (0, 0))) (fun H25 : Heap =>
  Keeps H1 H25 [((⟨H.size, 0, none⟩ : Addr), 8)] ∧ (
  CallsH Tryd.prog n_gen_Topology #[.slice l.p l.n l.c, .int .i64 (30 : Int)] H25 (fun v13 H26 =>
  ∃ t1 : Sl, v13 = .slice t1.p t1.n t1.c ∧ (
  Keeps H25 H26 [((⟨H.size, 0, none⟩ : Addr), 8)] ∧ (
  CallsH Tryd.prog n_gen_Host #[.agg #[.int .i64 x, .slice x1.p x1.n x1.c, .slice x2.p x2.n x2.c, .slice x3.p x3.n x3.c, .slice x4.p x4.n x4.c, .slice x5.p x5.n x5.c, .slice x6.p x6.n x6.c, .slice x7.p x7.n x7.c]] H26 (fun v14 H27 =>
  ∃ x106 : Int, ∃ x107 : Sl, ∃ x108 : Sl, ∃ x109 : Sl, ∃ x110 : Sl, ∃ x111 : Sl, ∃ x112 : Sl, ∃ x113 : Sl, v14 = .agg #[.int .i64 x106, .slice x107.p x107.n x107.c, .slice x108.p x108.n x108.c, .slice x109.p x109.n x109.c, .slice x110.p x110.n x110.c, .slice x111.p x111.n x111.c, .slice x112.p x112.n x112.c, .slice x113.p x113.n x113.c] ∧ (
  okRow H27 (⟨H1.size, 0, none⟩ : Addr) 8 ∧ (
  letH (wrs H27 (⟨H1.size, 0, none⟩ : Addr) [.int .i64 x106, .slice x107.p x107.n x107.c, .slice x108.p x108.n x108.c, .slice x109.p x109.n x109.c, .slice x110.p x110.n x110.c, .slice x111.p x111.n x111.c, .slice x112.p x112.n x112.c, .slice x113.p x113.n x113.c]) (fun H28 : Heap =>
  ∃ x114 : Int, rd H28 (⟨H1.size, 0, none⟩ : Addr) = some (.int .i64 x114) ∧ ∃ x115 : Sl, rd H28 ((⟨H1.size, 0, none⟩ : Addr).add 1) = some (.slice x115.p x115.n x115.c) ∧ ∃ x116 : Sl, rd H28 ((⟨H1.size, 0, none⟩ : Addr).add 2) = some (.slice x116.p x116.n x116.c) ∧ ∃ x117 : Sl, rd H28 ((⟨H1.size, 0, none⟩ : Addr).add 3) = some (.slice x117.p x117.n x117.c) ∧ ∃ x118 : Sl, rd H28 ((⟨H1.size, 0, none⟩ : Addr).add 4) = some (.slice x118.p x118.n x118.c) ∧ ∃ x119 : Sl, rd H28 ((⟨H1.size, 0, none⟩ : Addr).add 5) = some (.slice x119.p x119.n x119.c) ∧ ∃ x120 : Sl, rd H28 ((⟨H1.size, 0, none⟩ : Addr).add 6) = some (.slice x120.p x120.n x120.c) ∧ ∃ x121 : Sl, rd H28 ((⟨H1.size, 0, none⟩ : Addr).add 7) = some (.slice x121.p x121.n x121.c) ∧ (
  CallsH Tryd.prog n_interrupts_Lines #[.slice t1.p t1.n t1.c, .agg #[.int .i64 x114, .slice x115.p x115.n x115.c, .slice x116.p x116.n x116.c, .slice x117.p x117.n x117.c, .slice x118.p x118.n x118.c, .slice x119.p x119.n x119.c, .slice x120.p x120.n x120.c, .slice x121.p x121.n x121.c]] H28 (fun v15 H29 =>
  ∃ x122 : Sl, ∃ x123 : Int, v15 = .tuple #[.slice x122.p x122.n x122.c, .int .i64 x123] ∧ (
  ∃ J_2 : Bool → Heap → Prop, (
  CallsH Tryd.prog n_law22_awake #[] H29 (fun v16 H30 =>
  ∃ x124 : Bool, v16 = .bool x124 ∧ (
  iteB (!x124) (
  J_2 true H30) (
  iteB (x123 != (0 : Int)) (
  J_2 true H30) (
  J_2 ((x122.n : Int) != (t1.n : Int)) H30))))) ∧ (∀ x125 : Bool, ∀ H31 : Heap, J_2 x125 H31 → F_law22_InterruptsSharing_k9 R H1 t1 x122 x123 x125 H31))))))))))))))))

theorem F_law22_InterruptsSharing_eq (R : Value → Heap → Prop) (l : Sl) (h_0 : Int) (h_1 : Sl) (h_2 : Sl) (h_3 : Sl) (h_4 : Sl) (h_5 : Sl) (h_6 : Sl) (h_7 : Sl) (H : Heap) : wpF Tryd.prog Tryd.f5 [(9, .int .i64 0), (12, .int .i64 0), (37, .bool false)] [(4, [37], [5, 6, 7, 8])] [(6, [9], [5, 6, 7]), (15, [12], [5, 6, 7, 9, 10])] [6] [.slice l.p l.n l.c, .agg #[.int .i64 h_0, .slice h_1.p h_1.n h_1.c, .slice h_2.p h_2.n h_2.c, .slice h_3.p h_3.n h_3.c, .slice h_4.p h_4.n h_4.c, .slice h_5.p h_5.n h_5.c, .slice h_6.p h_6.n h_6.c, .slice h_7.p h_7.n h_7.c]] H R = F_law22_InterruptsSharing R l h_0 h_1 h_2 h_3 h_4 h_5 h_6 h_7 H := by kernel_rfl

theorem F_law22_InterruptsSharing_ok {R : Value → Heap → Prop} (l : Sl) (h_0 : Int) (h_1 : Sl) (h_2 : Sl) (h_3 : Sl) (h_4 : Sl) (h_5 : Sl) (h_6 : Sl) (h_7 : Sl) {H : Heap} (h : F_law22_InterruptsSharing R l h_0 h_1 h_2 h_3 h_4 h_5 h_6 h_7 H) : CallsH Tryd.prog n_law22_InterruptsSharing #[.slice l.p l.n l.c, .agg #[.int .i64 h_0, .slice h_1.p h_1.n h_1.c, .slice h_2.p h_2.n h_2.c, .slice h_3.p h_3.n h_3.c, .slice h_4.p h_4.n h_4.c, .slice h_5.p h_5.n h_5.c, .slice h_6.p h_6.n h_6.c, .slice h_7.p h_7.n h_7.c]] H R :=
  wpF_ok Tryd.func5 (F_law22_InterruptsSharing_eq R l h_0 h_1 h_2 h_3 h_4 h_5 h_6 h_7 H) h

/-! ### 6: platformfw/platformfwhelp.Mod -/

def F_help_Mod (R : Value → Heap → Prop) (v : Int) (n : Int) (H : Heap) : Prop :=
  (IntKind.u64.wrap n) ≠ 0 ∧ (
  letV (IntKind.i64.wrap ((IntKind.u64.wrap v).tmod (IntKind.u64.wrap n))) (fun x : Int =>
  R (.int .i64 x) H))

theorem F_help_Mod_eq (R : Value → Heap → Prop) (v : Int) (n : Int) (H : Heap) : wpF Tryd.prog Tryd.f6 [] [] [] [6] [.int .i64 v, .int .i64 n] H R = F_help_Mod R v n H := by kernel_rfl

theorem F_help_Mod_ok {R : Value → Heap → Prop} (v : Int) (n : Int) {H : Heap} (h : F_help_Mod R v n H) : CallsH Tryd.prog n_help_Mod #[.int .i64 v, .int .i64 n] H R :=
  wpF_ok Tryd.func6 (F_help_Mod_eq R v n H) h

/-! ### 7: platformfw/platformfwlaw22.awake -/

def F_law22_awake (R : Value → Heap → Prop)  (H : Heap) : Prop :=
  letH (H.push (.cells #[.int .i64 (-1 : Int), .int .i64 (5 : Int), .int .i64 (1 : Int), .int .i64 (0 : Int), .bool true, .bool false, .bool false, .int .i64 (0 : Int), .int .i64 (0 : Int), .int .i64 (0 : Int), .slice none 0 0, .int .i64 (0 : Int), .int .i64 (2 : Int), .int .i64 (1 : Int), .int .i64 (0 : Int), .bool false, .bool false, .bool false, .int .i64 (0 : Int), .int .i64 (1 : Int), .int .i64 (4 : Int), .slice none 0 0] t_api_Function (0, 0))) (fun H1 : Heap =>
  CallsH Tryd.prog n_interrupts_Swizzle #[.slice (some (⟨H.size, 0, none⟩ : Addr)) 2 2, .int .i64 (1 : Int)] H1 (fun v H2 =>
  ∃ x : Int, ∃ x1 : Int, ∃ x2 : Bool, v = .tuple #[.int .i64 x, .int .i64 x1, .bool x2] ∧ (
  CallsH Tryd.prog n_interrupts_Vectors #[.slice (some (⟨H.size, 0, none⟩ : Addr)) 2 2] H2 (fun v1 H3 =>
  ∃ x3 : Sl, ∃ x4 : Int, ∃ x5 : Int, ∃ x6 : Int, ∃ x7 : Int, ∃ x8 : Int, v1 = .tuple #[.slice x3.p x3.n x3.c, .agg #[.int .i64 x4, .int .i64 x5, .int .u64 x6, .int .u64 x7], .int .i64 x8] ∧ (
  letH (H3.push (.cells #[.int .i64 (0 : Int), .int .i64 (0 : Int), .int .u64 (0 : Int), .int .u64 (0 : Int)] t_api_Certificate (0, 0))) (fun H4 : Heap =>
  okRow H4 (⟨H3.size, 0, none⟩ : Addr) 4 ∧ (
  letH (wrs H4 (⟨H3.size, 0, none⟩ : Addr) [.int .i64 x4, .int .i64 x5, .int .u64 x6, .int .u64 x7]) (fun H5 : Heap =>
  iteB (x == (5 : Int)) (
  iteB (x1 == (3 : Int)) (
  iteB x2 (
  iteB (x8 == (0 : Int)) (
  letH (H5.push (.cells #[.int .i64 (0 : Int), .int .i64 (32 : Int)] t_int (0, 0))) (fun H6 : Heap =>
  CallsH Tryd.prog n_help_Equal_int #[.slice x3.p x3.n x3.c, .slice (some (⟨H5.size, 0, none⟩ : Addr)) 2 2] H6 (fun v2 H7 =>
  ∃ x9 : Bool, v2 = .bool x9 ∧ (
  R (.bool x9) H7)))) (
  R (.bool false) H5)) (
  R (.bool false) H5)) (
  R (.bool false) H5)) (
  R (.bool false) H5)))))))))

theorem F_law22_awake_eq (R : Value → Heap → Prop)  (H : Heap) : wpF Tryd.prog Tryd.f7 [] [] [] [6] [] H R = F_law22_awake R  H := by kernel_rfl

theorem F_law22_awake_ok {R : Value → Heap → Prop}  {H : Heap} (h : F_law22_awake R  H) : CallsH Tryd.prog n_law22_awake #[] H R :=
  wpF_ok Tryd.func7 (F_law22_awake_eq R  H) h

/-! ### 8: platformfw/interrupts.Connect -/

def F_interrupts_Connect_k1 (I_2 : Int → Int → Heap → Prop) (M_2 : Int → Int → Heap → Nat) (best : Int) (possible1 : Int) (H12 : Heap) (best1 : Int) (H14 : Heap) : Prop :=
  letV (bitsAnd .u32 possible1 (IntKind.u32.wrap (possible1 - (1 : Int)))) (fun possible2 : Int =>
  I_2 best1 possible2 H14 ∧ M_2 best1 possible2 H14 < M_2 best possible1 H12)

def F_interrupts_Connect_r2 (R : Value → Heap → Prop) (H5 : Heap) (H8 : Heap) (x23 : Sl) (I_1 : Int → Heap → Prop) (M_1 : Int → Heap → Nat) (x24 : Int) (H10 : Heap) (count : Int) (I_2 : Int → Int → Heap → Prop) (M_2 : Int → Int → Heap → Nat) (best : Int) (possible1 : Int) (H12 : Heap) : Prop :=
  iteB (possible1 != (0 : Int)) (
  ∃ J_ : Int → Heap → Prop, (
  CallsH Tryd.prog n_math_bits_TrailingZeros32 #[.int .u32 possible1] H12 (fun v3 H13 =>
  ∃ candidate : Int, v3 = .int .i64 candidate ∧ (
  iteB (decide (best < (0 : Int))) (
  J_ candidate H13) (
  0 ≤ candidate ∧ candidate < ((32 : Nat) : Int) ∧ (∃ x26 : Int, rd H13 ((⟨H5.size, 0, none⟩ : Addr).add (candidate.toNat * 1)) = some (.int .i64 x26) ∧ (
  0 ≤ best ∧ best < ((32 : Nat) : Int) ∧ (∃ x27 : Int, rd H13 ((⟨H5.size, 0, none⟩ : Addr).add (best.toNat * 1)) = some (.int .i64 x27) ∧ (
  iteB (decide (x26 < x27)) (
  J_ candidate H13) (
  J_ best H13))))))))) ∧ (∀ best1 : Int, ∀ H14 : Heap, J_ best1 H14 → F_interrupts_Connect_k1 I_2 M_2 best possible1 H12 best1 H14)) (
  iteB (decide (best < (0 : Int))) (
  R (.tuple #[.slice none 0 0, .int .i64 (19 : Int)]) H12) (
  0 ≤ x24 ∧ x24 < (((x23.n : Int).toNat : Nat) : Int) ∧ (okRow H12 ((⟨H8.size, 0, none⟩ : Addr).add (x24.toNat * 1)) 1 ∧ (
  letH (wrs H12 ((⟨H8.size, 0, none⟩ : Addr).add (x24.toNat * 1)) [.int .i64 best]) (fun H15 : Heap =>
  0 ≤ best ∧ best < ((32 : Nat) : Int) ∧ (∃ x28 : Int, rd H15 ((⟨H5.size, 0, none⟩ : Addr).add (best.toNat * 1)) = some (.int .i64 x28) ∧ (
  0 ≤ best ∧ best < ((32 : Nat) : Int) ∧ (okRow H15 ((⟨H5.size, 0, none⟩ : Addr).add (best.toNat * 1)) 1 ∧ (
  letH (wrs H15 ((⟨H5.size, 0, none⟩ : Addr).add (best.toNat * 1)) [.int .i64 (IntKind.i64.wrap (x28 + count))]) (fun H16 : Heap =>
  I_1 (IntKind.i64.wrap (x24 + (1 : Int))) H16 ∧ M_1 (IntKind.i64.wrap (x24 + (1 : Int))) H16 < M_1 x24 H10))))))))))

def F_interrupts_Connect_r3 (R : Value → Heap → Prop) (H : Heap) (H3 : Heap) (x10 : Sl) (H5 : Heap) (H8 : Heap) (x23 : Sl) (I_1 : Int → Heap → Prop) (M_1 : Int → Heap → Nat) (x24 : Int) (H10 : Heap) : Prop :=
  iteB (decide (x24 < (((x10.n : Int).toNat : Nat) : Int))) (
  0 ≤ x24 ∧ x24 < (((x10.n : Int).toNat : Nat) : Int) ∧ (∃ count : Int, rd H10 ((⟨H3.size, 0, none⟩ : Addr).add (x24.toNat * 1)) = some (.int .i64 count) ∧ (
  0 ≤ x24 ∧ x24 < (((x23.n : Int).toNat : Nat) : Int) ∧ (okRow H10 ((⟨H8.size, 0, none⟩ : Addr).add (x24.toNat * 1)) 1 ∧ (
  letH (wrs H10 ((⟨H8.size, 0, none⟩ : Addr).add (x24.toNat * 1)) [.int .i64 (-1 : Int)]) (fun H11 : Heap =>
  iteB (count == (0 : Int)) (
  I_1 (IntKind.i64.wrap (x24 + (1 : Int))) H11 ∧ M_1 (IntKind.i64.wrap (x24 + (1 : Int))) H11 < M_1 x24 H10) (
  ∃ x25 : Sl, rd H11 ((⟨H.size, 0, none⟩ : Addr).add 6) = some (.slice x25.p x25.n x25.c) ∧ (
  0 ≤ x24 ∧ x24 < (x25.n : Int) ∧ (unSome x25.p (fun a =>
  ∃ possible : Int, rd H11 (a.add (x24.toNat * 1)) = some (.int .u32 possible) ∧ (
  ∃ I_2 : Int → Int → Heap → Prop, ∃ M_2 : Int → Int → Heap → Nat, I_2 (-1 : Int) possible H11 ∧ (∀ best : Int, ∀ possible1 : Int, ∀ H12 : Heap, I_2 best possible1 H12 → F_interrupts_Connect_r2 R H5 H8 x23 I_1 M_1 x24 H10 count I_2 M_2 best possible1 H12)))))))))))) (
  R (.tuple #[.slice (some (⟨H8.size, 0, none⟩ : Addr)) ((x23.n : Int).toNat) ((x23.n : Int).toNat), .int .i64 (0 : Int)]) H10)

def F_interrupts_Connect_r4 (R : Value → Heap → Prop) (H : Heap) (l : Sl) (H3 : Heap) (x10 : Sl) (I_ : Int → Heap → Prop) (M_ : Int → Heap → Nat) (x11 : Int) (H5 : Heap) : Prop :=
  iteB (decide (x11 < (l.n : Int))) (
  ∃ x12 : Int, rd H5 (⟨H.size, 0, none⟩ : Addr) = some (.int .i64 x12) ∧ ∃ x13 : Sl, rd H5 ((⟨H.size, 0, none⟩ : Addr).add 1) = some (.slice x13.p x13.n x13.c) ∧ ∃ x14 : Sl, rd H5 ((⟨H.size, 0, none⟩ : Addr).add 2) = some (.slice x14.p x14.n x14.c) ∧ ∃ x15 : Sl, rd H5 ((⟨H.size, 0, none⟩ : Addr).add 3) = some (.slice x15.p x15.n x15.c) ∧ ∃ x16 : Sl, rd H5 ((⟨H.size, 0, none⟩ : Addr).add 4) = some (.slice x16.p x16.n x16.c) ∧ ∃ x17 : Sl, rd H5 ((⟨H.size, 0, none⟩ : Addr).add 5) = some (.slice x17.p x17.n x17.c) ∧ ∃ x18 : Sl, rd H5 ((⟨H.size, 0, none⟩ : Addr).add 6) = some (.slice x18.p x18.n x18.c) ∧ ∃ x19 : Sl, rd H5 ((⟨H.size, 0, none⟩ : Addr).add 7) = some (.slice x19.p x19.n x19.c) ∧ (
  CallsH Tryd.prog n_interrupts_LinkOf #[.slice l.p l.n l.c, .agg #[.int .i64 x12, .slice x13.p x13.n x13.c, .slice x14.p x14.n x14.c, .slice x15.p x15.n x15.c, .slice x16.p x16.n x16.c, .slice x17.p x17.n x17.c, .slice x18.p x18.n x18.c, .slice x19.p x19.n x19.c], .int .i64 x11] H5 (fun v2 H6 =>
  ∃ x20 : Int, ∃ x21 : Bool, v2 = .tuple #[.int .i64 x20, .bool x21] ∧ (
  iteB x21 (
  0 ≤ x20 ∧ x20 < (((x10.n : Int).toNat : Nat) : Int) ∧ (∃ x22 : Int, rd H6 ((⟨H3.size, 0, none⟩ : Addr).add (x20.toNat * 1)) = some (.int .i64 x22) ∧ (
  0 ≤ x20 ∧ x20 < (((x10.n : Int).toNat : Nat) : Int) ∧ (okRow H6 ((⟨H3.size, 0, none⟩ : Addr).add (x20.toNat * 1)) 1 ∧ (
  letH (wrs H6 ((⟨H3.size, 0, none⟩ : Addr).add (x20.toNat * 1)) [.int .i64 (IntKind.i64.wrap (x22 + (1 : Int)))]) (fun H7 : Heap =>
  I_ (IntKind.i64.wrap (x11 + (1 : Int))) H7 ∧ M_ (IntKind.i64.wrap (x11 + (1 : Int))) H7 < M_ x11 H5)))))) (
  I_ (IntKind.i64.wrap (x11 + (1 : Int))) H6 ∧ M_ (IntKind.i64.wrap (x11 + (1 : Int))) H6 < M_ x11 H5))))) (
  letH (H5.push (.cells #[.int .i64 (0 : Int), .int .i64 (0 : Int), .int .i64 (0 : Int), .int .i64 (0 : Int), .int .i64 (0 : Int), .int .i64 (0 : Int), .int .i64 (0 : Int), .int .i64 (0 : Int), .int .i64 (0 : Int), .int .i64 (0 : Int), .int .i64 (0 : Int), .int .i64 (0 : Int), .int .i64 (0 : Int), .int .i64 (0 : Int), .int .i64 (0 : Int), .int .i64 (0 : Int), .int .i64 (0 : Int), .int .i64 (0 : Int), .int .i64 (0 : Int), .int .i64 (0 : Int), .int .i64 (0 : Int), .int .i64 (0 : Int), .int .i64 (0 : Int), .int .i64 (0 : Int), .int .i64 (0 : Int), .int .i64 (0 : Int), .int .i64 (0 : Int), .int .i64 (0 : Int), .int .i64 (0 : Int), .int .i64 (0 : Int), .int .i64 (0 : Int), .int .i64 (0 : Int)] t_32_int (0, 0))) (fun H8 : Heap =>
  ∃ x23 : Sl, rd H8 ((⟨H.size, 0, none⟩ : Addr).add 6) = some (.slice x23.p x23.n x23.c) ∧ (
  0 ≤ (x23.n : Int) ∧ (x23.n : Int) ≤ (x23.n : Int) ∧ (x23.n : Int) * ((8 : Nat) : Int) ≤ 281474976710656 ∧ (
  letH (H8.push (.cells (zeroRow (.int .i64 (0 : Int)) (x23.n : Int).toNat) t_int (0, 0))) (fun H9 : Heap =>
  ∃ I_1 : Int → Heap → Prop, ∃ M_1 : Int → Heap → Nat, I_1 (0 : Int) H9 ∧ (∀ x24 : Int, ∀ H10 : Heap, I_1 x24 H10 → F_interrupts_Connect_r3 R H H3 x10 H5 H8 x23 I_1 M_1 x24 H10))))))

def F_interrupts_Connect (R : Value → Heap → Prop) (l : Sl) (h_0 : Int) (h_1 : Sl) (h_2 : Sl) (h_3 : Sl) (h_4 : Sl) (h_5 : Sl) (h_6 : Sl) (h_7 : Sl) (H : Heap) : Prop :=
  letH (H.push (.cells #[.int .i64 h_0, .slice h_1.p h_1.n h_1.c, .slice h_2.p h_2.n h_2.c, .slice h_3.p h_3.n h_3.c, .slice h_4.p h_4.n h_4.c, .slice h_5.p h_5.n h_5.c, .slice h_6.p h_6.n h_6.c, .slice h_7.p h_7.n h_7.c] t_api_Host (0, 0))) (fun H1 : Heap =>
  CallsH Tryd.prog n_enumerate_Valid #[.slice l.p l.n l.c] H1 (fun v H2 =>
  ∃ x : Bool, v = .bool x ∧ (
  iteB (!x) (
  R (.tuple #[.slice none 0 0, .int .i64 (1 : Int)]) H2) (
  ∃ x1 : Int, rd H2 (⟨H.size, 0, none⟩ : Addr) = some (.int .i64 x1) ∧ ∃ x2 : Sl, rd H2 ((⟨H.size, 0, none⟩ : Addr).add 1) = some (.slice x2.p x2.n x2.c) ∧ ∃ x3 : Sl, rd H2 ((⟨H.size, 0, none⟩ : Addr).add 2) = some (.slice x3.p x3.n x3.c) ∧ ∃ x4 : Sl, rd H2 ((⟨H.size, 0, none⟩ : Addr).add 3) = some (.slice x4.p x4.n x4.c) ∧ ∃ x5 : Sl, rd H2 ((⟨H.size, 0, none⟩ : Addr).add 4) = some (.slice x5.p x5.n x5.c) ∧ ∃ x6 : Sl, rd H2 ((⟨H.size, 0, none⟩ : Addr).add 5) = some (.slice x6.p x6.n x6.c) ∧ ∃ x7 : Sl, rd H2 ((⟨H.size, 0, none⟩ : Addr).add 6) = some (.slice x7.p x7.n x7.c) ∧ ∃ x8 : Sl, rd H2 ((⟨H.size, 0, none⟩ : Addr).add 7) = some (.slice x8.p x8.n x8.c) ∧ (
  CallsH Tryd.prog n_allocate_ValidHost #[.agg #[.int .i64 x1, .slice x2.p x2.n x2.c, .slice x3.p x3.n x3.c, .slice x4.p x4.n x4.c, .slice x5.p x5.n x5.c, .slice x6.p x6.n x6.c, .slice x7.p x7.n x7.c, .slice x8.p x8.n x8.c]] H2 (fun v1 H3 =>
  ∃ x9 : Bool, v1 = .bool x9 ∧ (
  iteB (!x9) (
  R (.tuple #[.slice none 0 0, .int .i64 (1 : Int)]) H3) (
  ∃ x10 : Sl, rd H3 ((⟨H.size, 0, none⟩ : Addr).add 6) = some (.slice x10.p x10.n x10.c) ∧ (
  0 ≤ (x10.n : Int) ∧ (x10.n : Int) ≤ (x10.n : Int) ∧ (x10.n : Int) * ((8 : Nat) : Int) ≤ 281474976710656 ∧ (
  letH (H3.push (.cells (zeroRow (.int .i64 (0 : Int)) (x10.n : Int).toNat) t_int (0, 0))) (fun H4 : Heap =>
  ∃ I_ : Int → Heap → Prop, ∃ M_ : Int → Heap → Nat, I_ (0 : Int) H4 ∧ (∀ x11 : Int, ∀ H5 : Heap, I_ x11 H5 → F_interrupts_Connect_r4 R H l H3 x10 I_ M_ x11 H5))))))))))))

theorem F_interrupts_Connect_eq (R : Value → Heap → Prop) (l : Sl) (h_0 : Int) (h_1 : Sl) (h_2 : Sl) (h_3 : Sl) (h_4 : Sl) (h_5 : Sl) (h_6 : Sl) (h_7 : Sl) (H : Heap) : wpF Tryd.prog Tryd.f8 [(14, .int .i64 0), (15, .int .u32 0), (31, .int .i64 0), (55, .int .i64 0)] [(21, [14], [3, 10, 11, 12, 13, 15, 53, 54, 55])] [(5, [31], [0, 3, 6, 30]), (14, [55], [3, 10, 11, 53, 54]), (20, [14, 15], [3, 10, 11, 12, 13, 53, 54, 55])] [6] [.slice l.p l.n l.c, .agg #[.int .i64 h_0, .slice h_1.p h_1.n h_1.c, .slice h_2.p h_2.n h_2.c, .slice h_3.p h_3.n h_3.c, .slice h_4.p h_4.n h_4.c, .slice h_5.p h_5.n h_5.c, .slice h_6.p h_6.n h_6.c, .slice h_7.p h_7.n h_7.c]] H R = F_interrupts_Connect R l h_0 h_1 h_2 h_3 h_4 h_5 h_6 h_7 H := by kernel_rfl

theorem F_interrupts_Connect_ok {R : Value → Heap → Prop} (l : Sl) (h_0 : Int) (h_1 : Sl) (h_2 : Sl) (h_3 : Sl) (h_4 : Sl) (h_5 : Sl) (h_6 : Sl) (h_7 : Sl) {H : Heap} (h : F_interrupts_Connect R l h_0 h_1 h_2 h_3 h_4 h_5 h_6 h_7 H) : CallsH Tryd.prog n_interrupts_Connect #[.slice l.p l.n l.c, .agg #[.int .i64 h_0, .slice h_1.p h_1.n h_1.c, .slice h_2.p h_2.n h_2.c, .slice h_3.p h_3.n h_3.c, .slice h_4.p h_4.n h_4.c, .slice h_5.p h_5.n h_5.c, .slice h_6.p h_6.n h_6.c, .slice h_7.p h_7.n h_7.c]] H R :=
  wpF_ok Tryd.func8 (F_interrupts_Connect_eq R l h_0 h_1 h_2 h_3 h_4 h_5 h_6 h_7 H) h

/-! ### 9: platformfw/platformfwgen.Topology -/

def F_gen_Topology_k1 (out : Sl) (bridges : Sl) (J_1 : Sl → Int → Heap → Prop) (H28 : Heap) : Prop :=
  letH (H28.push (.cells #[.int .i64 (out.n : Int)] t_int (0, 0))) (fun H29 : Heap =>
  runH Tryd.prog (Builtin.append_ #[t_sl_int, t_sl_int] t_sl_int #[.slice bridges.p bridges.n bridges.c, .slice (some (⟨H28.size, 0, none⟩ : Addr)) 1 1]) H29 (fun v13 H30 =>
  ∃ bridges1 : Sl, v13 = .slice bridges1.p bridges1.n bridges1.c ∧ (
  J_1 bridges1 (2 : Int) H30)))

def F_gen_Topology_k2 (out : Sl) (bridges : Sl) (H3 : Heap) (g : Addr) (J_1 : Sl → Int → Heap → Prop) (H25 : Heap) : Prop :=
  ∃ J_3 : Heap → Prop, (
  ∃ x46 : Bool, rd H25 (g.add 6) = some (.bool x46) ∧ (
  iteB x46 (
  ∃ x47 : Int, rd H25 ((⟨H3.size, 0, none⟩ : Addr).add 7) = some (.int .i64 x47) ∧ (
  CallsH Tryd.prog n_help_Mod #[.int .i64 x47, .int .i64 (4 : Int)] H25 (fun v12 H26 =>
  ∃ x48 : Int, v12 = .int .i64 x48 ∧ (
  okRow H26 (g.add 7) 1 ∧ (
  letH (wrs H26 (g.add 7) [.int .i64 x48]) (fun H27 : Heap =>
  J_3 H27)))))) (
  J_3 H25))) ∧ (∀ H28 : Heap, J_3 H28 → F_gen_Topology_k1 out bridges J_1 H28)

def F_gen_Topology_k3 (I_ : Sl → Sl → Int → Heap → Prop) (M_ : Sl → Sl → Int → Heap → Nat) (out : Sl) (bridges : Sl) (i : Int) (H3 : Heap) (g : Addr) (bridges2 : Sl) (most2 : Int) (H31 : Heap) : Prop :=
  ∃ x49 : Sl, rd H31 ((⟨H3.size, 0, none⟩ : Addr).add 10) = some (.slice x49.p x49.n x49.c) ∧ (
  CallsH Tryd.prog n_gen_bars #[.slice x49.p x49.n x49.c, .int .i64 most2] H31 (fun v14 H32 =>
  ∃ x50 : Sl, v14 = .slice x50.p x50.n x50.c ∧ (
  okRow H32 (g.add 10) 1 ∧ (
  letH (wrs H32 (g.add 10) [.slice x50.p x50.n x50.c]) (fun H33 : Heap =>
  ∃ x51 : Int, rd H33 g = some (.int .i64 x51) ∧ ∃ x52 : Int, rd H33 (g.add 1) = some (.int .i64 x52) ∧ ∃ x53 : Int, rd H33 (g.add 2) = some (.int .i64 x53) ∧ ∃ x54 : Int, rd H33 (g.add 3) = some (.int .i64 x54) ∧ ∃ x55 : Bool, rd H33 (g.add 4) = some (.bool x55) ∧ ∃ x56 : Bool, rd H33 (g.add 5) = some (.bool x56) ∧ ∃ x57 : Bool, rd H33 (g.add 6) = some (.bool x57) ∧ ∃ x58 : Int, rd H33 (g.add 7) = some (.int .i64 x58) ∧ ∃ x59 : Int, rd H33 (g.add 8) = some (.int .i64 x59) ∧ ∃ x60 : Int, rd H33 (g.add 9) = some (.int .i64 x60) ∧ ∃ x61 : Sl, rd H33 (g.add 10) = some (.slice x61.p x61.n x61.c) ∧ (
  letH (H33.push (.cells #[.int .i64 x51, .int .i64 x52, .int .i64 x53, .int .i64 x54, .bool x55, .bool x56, .bool x57, .int .i64 x58, .int .i64 x59, .int .i64 x60, .slice x61.p x61.n x61.c] t_api_Function (0, 0))) (fun H34 : Heap =>
  runH Tryd.prog (Builtin.append_ #[t_sl_api_Function, t_sl_api_Function] t_sl_api_Function #[.slice out.p out.n out.c, .slice (some (⟨H33.size, 0, none⟩ : Addr)) 1 1]) H34 (fun v15 H35 =>
  ∃ out1 : Sl, v15 = .slice out1.p out1.n out1.c ∧ (
  letV (IntKind.i64.wrap (i + (1 : Int))) (fun i2 : Int =>
  I_ out1 bridges2 i2 H35 ∧ M_ out1 bridges2 i2 H35 < M_ out bridges i H3))))))))))

def F_gen_Topology_k4 (H : Heap) (I_ : Sl → Sl → Int → Heap → Prop) (M_ : Sl → Sl → Int → Heap → Nat) (out : Sl) (bridges : Sl) (i : Int) (H3 : Heap) (g : Addr) (H18 : Heap) : Prop :=
  ∃ x35 : Int, rd H18 g = some (.int .i64 x35) ∧ (
  ∃ x36 : Int, rd H18 (g.add 1) = some (.int .i64 x36) ∧ (
  runH Tryd.prog (Instr.lookup t_map_2_int_bool (.map (some H.size)) (.agg #[.int .i64 x35, .int .i64 x36]) false) H18 (fun v9 H19 =>
  ∃ x37 : Bool, v9 = .bool x37 ∧ (
  iteB x37 (
  letV (IntKind.i64.wrap (i + (1 : Int))) (fun i1 : Int =>
  I_ out bridges i1 H19 ∧ M_ out bridges i1 H19 < M_ out bridges i H3)) (
  ∃ x38 : Int, rd H19 g = some (.int .i64 x38) ∧ (
  ∃ x39 : Int, rd H19 (g.add 1) = some (.int .i64 x39) ∧ (
  runH Tryd.prog (Instr.mapUpdate t_map_2_int_bool (.map (some H.size)) (.agg #[.int .i64 x38, .int .i64 x39]) (.bool true)) H19 (fun _ H20 =>
  ∃ J_1 : Sl → Int → Heap → Prop, (
  ∃ x40 : Bool, rd H20 (g.add 4) = some (.bool x40) ∧ (
  iteB x40 (
  ∃ J_2 : Heap → Prop, (
  ∃ x41 : Int, rd H20 ((⟨H3.size, 0, none⟩ : Addr).add 3) = some (.int .i64 x41) ∧ (
  CallsP Tryd.prog n_help_Mod #[.int .i64 x41, .int .i64 (3 : Int)] (fun v10 =>
  ∃ x42 : Int, v10 = .int .i64 x42 ∧ (
  ∃ x43 : Bool, rd H20 ((⟨H3.size, 0, none⟩ : Addr).add 6) = some (.bool x43) ∧ (
  iteB x43 (
  okRow H20 (g.add 5) 1 ∧ (
  letH (wrs H20 (g.add 5) [.bool (decide (x42 > (0 : Int)))]) (fun H21 : Heap =>
  okRow H21 (g.add 6) 1 ∧ (
  letH (wrs H21 (g.add 6) [.bool true]) (fun H22 : Heap =>
  J_2 H22))))) (
  ∃ x44 : Int, rd H20 ((⟨H3.size, 0, none⟩ : Addr).add 3) = some (.int .i64 x44) ∧ (
  CallsP Tryd.prog n_help_Mod #[.int .i64 x44, .int .i64 (4 : Int)] (fun v11 =>
  ∃ x45 : Int, v11 = .int .i64 x45 ∧ (
  okRow H20 (g.add 5) 1 ∧ (
  letH (wrs H20 (g.add 5) [.bool (decide (x42 > (0 : Int)))]) (fun H23 : Heap =>
  okRow H23 (g.add 6) 1 ∧ (
  letH (wrs H23 (g.add 6) [.bool (x45 == (0 : Int))]) (fun H24 : Heap =>
  J_2 H24))))))))))))) ∧ (∀ H25 : Heap, J_2 H25 → F_gen_Topology_k2 out bridges H3 g J_1 H25)) (
  J_1 bridges (6 : Int) H20))) ∧ (∀ bridges2 : Sl, ∀ most2 : Int, ∀ H31 : Heap, J_1 bridges2 most2 H31 → F_gen_Topology_k3 I_ M_ out bridges i H3 g bridges2 most2 H31)))))))))

def F_gen_Topology_r5 (R : Value → Heap → Prop) (H : Heap) (l : Sl) (most : Int) (I_ : Sl → Sl → Int → Heap → Prop) (M_ : Sl → Sl → Int → Heap → Nat) (out : Sl) (bridges : Sl) (i : Int) (H3 : Heap) : Prop :=
  iteB (decide (i < (l.n : Int))) (
  iteB (decide ((out.n : Int) < most)) (
  0 ≤ i ∧ i < (l.n : Int) ∧ (unSome l.p (fun a =>
  ∃ x : Int, rd H3 (a.add (i.toNat * 11)) = some (.int .i64 x) ∧ ∃ x1 : Int, rd H3 ((a.add (i.toNat * 11)).add 1) = some (.int .i64 x1) ∧ ∃ x2 : Int, rd H3 ((a.add (i.toNat * 11)).add 2) = some (.int .i64 x2) ∧ ∃ x3 : Int, rd H3 ((a.add (i.toNat * 11)).add 3) = some (.int .i64 x3) ∧ ∃ x4 : Bool, rd H3 ((a.add (i.toNat * 11)).add 4) = some (.bool x4) ∧ ∃ x5 : Bool, rd H3 ((a.add (i.toNat * 11)).add 5) = some (.bool x5) ∧ ∃ x6 : Bool, rd H3 ((a.add (i.toNat * 11)).add 6) = some (.bool x6) ∧ ∃ x7 : Int, rd H3 ((a.add (i.toNat * 11)).add 7) = some (.int .i64 x7) ∧ ∃ x8 : Int, rd H3 ((a.add (i.toNat * 11)).add 8) = some (.int .i64 x8) ∧ ∃ x9 : Int, rd H3 ((a.add (i.toNat * 11)).add 9) = some (.int .i64 x9) ∧ ∃ x10 : Sl, rd H3 ((a.add (i.toNat * 11)).add 10) = some (.slice x10.p x10.n x10.c) ∧ (
  letH (H3.push (.cells #[.int .i64 (0 : Int), .int .i64 (0 : Int), .int .i64 (0 : Int), .int .i64 (0 : Int), .bool false, .bool false, .bool false, .int .i64 (0 : Int), .int .i64 (0 : Int), .int .i64 (0 : Int), .slice none 0 0] t_api_Function (0, 0))) (fun H4 : Heap =>
  okRow H4 (⟨H3.size, 0, none⟩ : Addr) 11 ∧ (
  letH (wrs H4 (⟨H3.size, 0, none⟩ : Addr) [.int .i64 x, .int .i64 x1, .int .i64 x2, .int .i64 x3, .bool x4, .bool x5, .bool x6, .int .i64 x7, .int .i64 x8, .int .i64 x9, .slice x10.p x10.n x10.c]) (fun H5 : Heap =>
  ∃ J_ : Addr → Heap → Prop, (
  ∃ x11 : Int, rd H5 (⟨H3.size, 0, none⟩ : Addr) = some (.int .i64 x11) ∧ (
  CallsP Tryd.prog n_help_Mod #[.int .i64 x11, .int .i64 (bridges.n : Int)] (fun v =>
  ∃ x12 : Int, v = .int .i64 x12 ∧ (
  0 ≤ x12 ∧ x12 < (bridges.n : Int) ∧ (unSome bridges.p (fun a1 =>
  ∃ x13 : Int, rd H5 (a1.add (x12.toNat * 1)) = some (.int .i64 x13) ∧ (
  ∃ x14 : Int, rd H5 ((⟨H3.size, 0, none⟩ : Addr).add 1) = some (.int .i64 x14) ∧ (
  CallsP Tryd.prog n_help_Mod #[.int .i64 x14, .int .i64 (8 : Int)] (fun v1 =>
  ∃ x15 : Int, v1 = .int .i64 x15 ∧ (
  ∃ x16 : Int, rd H5 ((⟨H3.size, 0, none⟩ : Addr).add 2) = some (.int .i64 x16) ∧ (
  CallsP Tryd.prog n_help_Mod #[.int .i64 x16, .int .i64 (9 : Int)] (fun v2 =>
  ∃ x17 : Int, v2 = .int .i64 x17 ∧ (
  ∃ x18 : Int, rd H5 ((⟨H3.size, 0, none⟩ : Addr).add 3) = some (.int .i64 x18) ∧ (
  CallsP Tryd.prog n_help_Mod #[.int .i64 x18, .int .i64 (9 : Int)] (fun v3 =>
  ∃ x19 : Int, v3 = .int .i64 x19 ∧ (
  ∃ x20 : Bool, rd H5 ((⟨H3.size, 0, none⟩ : Addr).add 4) = some (.bool x20) ∧ (
  iteB x20 (
  ∃ x21 : Int, rd H5 ((⟨H3.size, 0, none⟩ : Addr).add 8) = some (.int .i64 x21) ∧ (
  CallsP Tryd.prog n_help_Mod #[.int .i64 x21, .int .i64 (5 : Int)] (fun v4 =>
  ∃ x22 : Int, v4 = .int .i64 x22 ∧ (
  ∃ x23 : Int, rd H5 ((⟨H3.size, 0, none⟩ : Addr).add 9) = some (.int .i64 x23) ∧ (
  CallsP Tryd.prog n_help_Mod #[.int .i64 x23, .int .i64 (6 : Int)] (fun v5 =>
  ∃ x24 : Int, v5 = .int .i64 x24 ∧ (
  (
  letH (H5.push (.cells #[.int .i64 (0 : Int), .int .i64 (1 : Int), .int .i64 (2 : Int), .int .i64 (4 : Int), .int .i64 (16 : Int), .int .i64 (32 : Int)] t_int (0, 0))) (fun H6 : Heap =>
  Keeps H5 H6 [((⟨H3.size, 0, none⟩ : Addr), 1), ((a1.add (x12.toNat * 1)), 1), (((⟨H3.size, 0, none⟩ : Addr).add 1), 1), (((⟨H3.size, 0, none⟩ : Addr).add 2), 1), (((⟨H3.size, 0, none⟩ : Addr).add 3), 1), (((⟨H3.size, 0, none⟩ : Addr).add 4), 1), (((⟨H3.size, 0, none⟩ : Addr).add 8), 1), (((⟨H3.size, 0, none⟩ : Addr).add 9), 1)] ∧ (
  0 ≤ x24 ∧ x24 < (6 : Int) ∧ (∃ x25 : Int, rd H6 ((⟨H5.size, 0, none⟩ : Addr).add (x24.toNat * 1)) = some (.int .i64 x25) ∧ (
  letH (H6.push (.cells #[.int .i64 (0 : Int), .int .i64 (0 : Int), .int .i64 (0 : Int), .int .i64 (0 : Int), .bool false, .bool false, .bool false, .int .i64 (0 : Int), .int .i64 (0 : Int), .int .i64 (0 : Int), .slice none 0 0] t_api_Function (0, 0))) (fun H7 : Heap =>
  Keeps H6 H7 [((⟨H3.size, 0, none⟩ : Addr), 1), ((a1.add (x12.toNat * 1)), 1), (((⟨H3.size, 0, none⟩ : Addr).add 1), 1), (((⟨H3.size, 0, none⟩ : Addr).add 2), 1), (((⟨H3.size, 0, none⟩ : Addr).add 3), 1), (((⟨H3.size, 0, none⟩ : Addr).add 4), 1), (((⟨H3.size, 0, none⟩ : Addr).add 8), 1), (((⟨H3.size, 0, none⟩ : Addr).add 9), 1), (((⟨H5.size, 0, none⟩ : Addr).add (x24.toNat * 1)), 1)] ∧ (
  okRow H7 (⟨H6.size, 0, none⟩ : Addr) 11 ∧ (
  letH (wrs H7 (⟨H6.size, 0, none⟩ : Addr) [.int .i64 x13, .int .i64 x15, .int .i64 (IntKind.i64.wrap ((1 : Int) + x17)), .int .i64 x19, .bool true, .bool false, .bool false, .int .i64 (0 : Int), .int .i64 x22, .int .i64 x25, .slice none 0 0]) (fun H8 : Heap =>
  J_ (⟨H6.size, 0, none⟩ : Addr) H8))))))))) ∧ (
  letH (H5.push (.cells #[.int .i64 (0 : Int), .int .i64 (0 : Int), .int .i64 (0 : Int), .int .i64 (0 : Int), .bool false, .bool false, .bool false, .int .i64 (0 : Int), .int .i64 (0 : Int), .int .i64 (0 : Int), .slice none 0 0] t_api_Function (0, 0))) (fun H9 : Heap =>
  Keeps H5 H9 [((⟨H3.size, 0, none⟩ : Addr), 1), ((a1.add (x12.toNat * 1)), 1), (((⟨H3.size, 0, none⟩ : Addr).add 1), 1), (((⟨H3.size, 0, none⟩ : Addr).add 2), 1), (((⟨H3.size, 0, none⟩ : Addr).add 3), 1), (((⟨H3.size, 0, none⟩ : Addr).add 4), 1), (((⟨H3.size, 0, none⟩ : Addr).add 8), 1), (((⟨H3.size, 0, none⟩ : Addr).add 9), 1)] ∧ (
  letH (H9.push (.cells #[.int .i64 (0 : Int), .int .i64 (1 : Int), .int .i64 (2 : Int), .int .i64 (4 : Int), .int .i64 (16 : Int), .int .i64 (32 : Int)] t_int (0, 0))) (fun H10 : Heap =>
  Keeps H9 H10 [((⟨H3.size, 0, none⟩ : Addr), 1), ((a1.add (x12.toNat * 1)), 1), (((⟨H3.size, 0, none⟩ : Addr).add 1), 1), (((⟨H3.size, 0, none⟩ : Addr).add 2), 1), (((⟨H3.size, 0, none⟩ : Addr).add 3), 1), (((⟨H3.size, 0, none⟩ : Addr).add 4), 1), (((⟨H3.size, 0, none⟩ : Addr).add 8), 1), (((⟨H3.size, 0, none⟩ : Addr).add 9), 1)] ∧ (
  0 ≤ x24 ∧ x24 < (6 : Int) ∧ (∃ x26 : Int, rd H10 ((⟨H9.size, 0, none⟩ : Addr).add (x24.toNat * 1)) = some (.int .i64 x26) ∧ (
  okRow H10 (⟨H5.size, 0, none⟩ : Addr) 11 ∧ (
  letH (wrs H10 (⟨H5.size, 0, none⟩ : Addr) [.int .i64 x13, .int .i64 x15, .int .i64 (IntKind.i64.wrap ((1 : Int) + x17)), .int .i64 x19, .bool true, .bool false, .bool false, .int .i64 (0 : Int), .int .i64 x22, .int .i64 x26, .slice none 0 0]) (fun H11 : Heap =>
  J_ (⟨H5.size, 0, none⟩ : Addr) H11)))))))))))))))) (
  ∃ x27 : Int, rd H5 ((⟨H3.size, 0, none⟩ : Addr).add 2) = some (.int .i64 x27) ∧ (
  CallsP Tryd.prog n_help_Mod #[.int .i64 x27, .int .i64 (3 : Int)] (fun v6 =>
  ∃ x28 : Int, v6 = .int .i64 x28 ∧ (
  ∃ x29 : Int, rd H5 ((⟨H3.size, 0, none⟩ : Addr).add 8) = some (.int .i64 x29) ∧ (
  CallsP Tryd.prog n_help_Mod #[.int .i64 x29, .int .i64 (5 : Int)] (fun v7 =>
  ∃ x30 : Int, v7 = .int .i64 x30 ∧ (
  ∃ x31 : Int, rd H5 ((⟨H3.size, 0, none⟩ : Addr).add 9) = some (.int .i64 x31) ∧ (
  CallsP Tryd.prog n_help_Mod #[.int .i64 x31, .int .i64 (6 : Int)] (fun v8 =>
  ∃ x32 : Int, v8 = .int .i64 x32 ∧ (
  (
  letH (H5.push (.cells #[.int .i64 (0 : Int), .int .i64 (1 : Int), .int .i64 (2 : Int), .int .i64 (4 : Int), .int .i64 (16 : Int), .int .i64 (32 : Int)] t_int (0, 0))) (fun H12 : Heap =>
  Keeps H5 H12 [((⟨H3.size, 0, none⟩ : Addr), 1), ((a1.add (x12.toNat * 1)), 1), (((⟨H3.size, 0, none⟩ : Addr).add 1), 1), (((⟨H3.size, 0, none⟩ : Addr).add 2), 1), (((⟨H3.size, 0, none⟩ : Addr).add 3), 1), (((⟨H3.size, 0, none⟩ : Addr).add 4), 1), (((⟨H3.size, 0, none⟩ : Addr).add 2), 1), (((⟨H3.size, 0, none⟩ : Addr).add 8), 1), (((⟨H3.size, 0, none⟩ : Addr).add 9), 1)] ∧ (
  0 ≤ x32 ∧ x32 < (6 : Int) ∧ (∃ x33 : Int, rd H12 ((⟨H5.size, 0, none⟩ : Addr).add (x32.toNat * 1)) = some (.int .i64 x33) ∧ (
  letH (H12.push (.cells #[.int .i64 (0 : Int), .int .i64 (0 : Int), .int .i64 (0 : Int), .int .i64 (0 : Int), .bool false, .bool false, .bool false, .int .i64 (0 : Int), .int .i64 (0 : Int), .int .i64 (0 : Int), .slice none 0 0] t_api_Function (0, 0))) (fun H13 : Heap =>
  Keeps H12 H13 [((⟨H3.size, 0, none⟩ : Addr), 1), ((a1.add (x12.toNat * 1)), 1), (((⟨H3.size, 0, none⟩ : Addr).add 1), 1), (((⟨H3.size, 0, none⟩ : Addr).add 2), 1), (((⟨H3.size, 0, none⟩ : Addr).add 3), 1), (((⟨H3.size, 0, none⟩ : Addr).add 4), 1), (((⟨H3.size, 0, none⟩ : Addr).add 2), 1), (((⟨H3.size, 0, none⟩ : Addr).add 8), 1), (((⟨H3.size, 0, none⟩ : Addr).add 9), 1), (((⟨H5.size, 0, none⟩ : Addr).add (x32.toNat * 1)), 1)] ∧ (
  okRow H13 (⟨H12.size, 0, none⟩ : Addr) 11 ∧ (
  letH (wrs H13 (⟨H12.size, 0, none⟩ : Addr) [.int .i64 x13, .int .i64 x15, .int .i64 (IntKind.i64.wrap ((1 : Int) + x17)), .int .i64 x19, .bool (x28 == (0 : Int)), .bool false, .bool false, .int .i64 (0 : Int), .int .i64 x30, .int .i64 x33, .slice none 0 0]) (fun H14 : Heap =>
  J_ (⟨H12.size, 0, none⟩ : Addr) H14))))))))) ∧ (
  letH (H5.push (.cells #[.int .i64 (0 : Int), .int .i64 (0 : Int), .int .i64 (0 : Int), .int .i64 (0 : Int), .bool false, .bool false, .bool false, .int .i64 (0 : Int), .int .i64 (0 : Int), .int .i64 (0 : Int), .slice none 0 0] t_api_Function (0, 0))) (fun H15 : Heap =>
  Keeps H5 H15 [((⟨H3.size, 0, none⟩ : Addr), 1), ((a1.add (x12.toNat * 1)), 1), (((⟨H3.size, 0, none⟩ : Addr).add 1), 1), (((⟨H3.size, 0, none⟩ : Addr).add 2), 1), (((⟨H3.size, 0, none⟩ : Addr).add 3), 1), (((⟨H3.size, 0, none⟩ : Addr).add 4), 1), (((⟨H3.size, 0, none⟩ : Addr).add 2), 1), (((⟨H3.size, 0, none⟩ : Addr).add 8), 1), (((⟨H3.size, 0, none⟩ : Addr).add 9), 1)] ∧ (
  letH (H15.push (.cells #[.int .i64 (0 : Int), .int .i64 (1 : Int), .int .i64 (2 : Int), .int .i64 (4 : Int), .int .i64 (16 : Int), .int .i64 (32 : Int)] t_int (0, 0))) (fun H16 : Heap =>
  Keeps H15 H16 [((⟨H3.size, 0, none⟩ : Addr), 1), ((a1.add (x12.toNat * 1)), 1), (((⟨H3.size, 0, none⟩ : Addr).add 1), 1), (((⟨H3.size, 0, none⟩ : Addr).add 2), 1), (((⟨H3.size, 0, none⟩ : Addr).add 3), 1), (((⟨H3.size, 0, none⟩ : Addr).add 4), 1), (((⟨H3.size, 0, none⟩ : Addr).add 2), 1), (((⟨H3.size, 0, none⟩ : Addr).add 8), 1), (((⟨H3.size, 0, none⟩ : Addr).add 9), 1)] ∧ (
  0 ≤ x32 ∧ x32 < (6 : Int) ∧ (∃ x34 : Int, rd H16 ((⟨H15.size, 0, none⟩ : Addr).add (x32.toNat * 1)) = some (.int .i64 x34) ∧ (
  okRow H16 (⟨H5.size, 0, none⟩ : Addr) 11 ∧ (
  letH (wrs H16 (⟨H5.size, 0, none⟩ : Addr) [.int .i64 x13, .int .i64 x15, .int .i64 (IntKind.i64.wrap ((1 : Int) + x17)), .int .i64 x19, .bool (x28 == (0 : Int)), .bool false, .bool false, .int .i64 (0 : Int), .int .i64 x30, .int .i64 x34, .slice none 0 0]) (fun H17 : Heap =>
  J_ (⟨H5.size, 0, none⟩ : Addr) H17)))))))))))))))))))))))))))))))))))) ∧ (∀ g : Addr, ∀ H18 : Heap, J_ g H18 → F_gen_Topology_k4 H I_ M_ out bridges i H3 g H18)))))))) (
  R (.slice out.p out.n out.c) H3)) (
  R (.slice out.p out.n out.c) H3)

def F_gen_Topology (R : Value → Heap → Prop) (l : Sl) (most : Int) (H : Heap) : Prop :=
  letH (H.push (.map #[] 0)) (fun H1 : Heap =>
  letH (H1.push (.cells #[.int .i64 (-1 : Int)] t_int (0, 0))) (fun H2 : Heap =>
  ∃ I_ : Sl → Sl → Int → Heap → Prop, ∃ M_ : Sl → Sl → Int → Heap → Nat, I_ (Sl.mk none 0 0) (Sl.mk (some (⟨H1.size, 0, none⟩ : Addr)) 1 1) (0 : Int) H2 ∧ (∀ out : Sl, ∀ bridges : Sl, ∀ i : Int, ∀ H3 : Heap, I_ out bridges i H3 → F_gen_Topology_r5 R H l most I_ M_ out bridges i H3)))

theorem F_gen_Topology_eq (R : Value → Heap → Prop) (l : Sl) (most : Int) (H : Heap) : wpF Tryd.prog Tryd.f9 [(5, .slice none 0 0), (7, .slice none 0 0), (8, .int .i64 0), (10, .pointer (some ⟨0, 0, none⟩)), (11, .int .i64 0)] [(9, [10], [0, 1, 5, 6, 7, 8, 9]), (18, [7, 11], [0, 1, 5, 6, 8, 9, 10]), (15, [], [0, 1, 5, 6, 7, 8, 9, 10, 11]), (17, [], [0, 1, 5, 6, 7, 8, 9, 10, 11])] [(5, [5, 7, 8], [0, 1, 6])] [6] [.slice l.p l.n l.c, .int .i64 most] H R = F_gen_Topology R l most H := by kernel_rfl

theorem F_gen_Topology_ok {R : Value → Heap → Prop} (l : Sl) (most : Int) {H : Heap} (h : F_gen_Topology R l most H) : CallsH Tryd.prog n_gen_Topology #[.slice l.p l.n l.c, .int .i64 most] H R :=
  wpF_ok Tryd.func9 (F_gen_Topology_eq R l most H) h

/-! ### 10: platformfw/platformfwref21.Connect -/

def F_ref21_Connect_k1 (H8 : Heap) (x22 : Sl) (k : Int) (I_2 : Int → Heap → Prop) (M_2 : Int → Heap → Nat) (n : Int) (H12 : Heap) (x30 : Bool) (H13 : Heap) : Prop :=
  iteB x30 (
  0 ≤ k ∧ k < (((x22.n : Int).toNat : Nat) : Int) ∧ (okRow H13 ((⟨H8.size, 0, none⟩ : Addr).add (k.toNat * 1)) 1 ∧ (
  letH (wrs H13 ((⟨H8.size, 0, none⟩ : Addr).add (k.toNat * 1)) [.int .i64 n]) (fun H14 : Heap =>
  letV (IntKind.i64.wrap (n + (1 : Int))) (fun n1 : Int =>
  I_2 n1 H14 ∧ M_2 n1 H14 < M_2 n H12))))) (
  letV (IntKind.i64.wrap (n + (1 : Int))) (fun n2 : Int =>
  I_2 n2 H13 ∧ M_2 n2 H13 < M_2 n H12))

def F_ref21_Connect_r2 (H : Heap) (H3 : Heap) (x10 : Sl) (H5 : Heap) (H8 : Heap) (x22 : Sl) (k : Int) (J_ : Heap → Prop) (I_2 : Int → Heap → Prop) (M_2 : Int → Heap → Nat) (n : Int) (H12 : Heap) : Prop :=
  iteB (decide (n < (32 : Int))) (
  0 ≤ k ∧ k < (((x10.n : Int).toNat : Nat) : Int) ∧ (∃ x23 : Int, rd H12 ((⟨H3.size, 0, none⟩ : Addr).add (k.toNat * 1)) = some (.int .i64 x23) ∧ (
  iteB (decide (x23 > (0 : Int))) (
  ∃ J_1 : Bool → Heap → Prop, (
  ∃ x24 : Sl, rd H12 ((⟨H.size, 0, none⟩ : Addr).add 6) = some (.slice x24.p x24.n x24.c) ∧ (
  0 ≤ k ∧ k < (x24.n : Int) ∧ (unSome x24.p (fun a =>
  ∃ x25 : Int, rd H12 (a.add (k.toNat * 1)) = some (.int .u32 x25) ∧ (
  0 ≤ (IntKind.u64.wrap n) ∧ (
  iteB ((bitsAnd .u32 (x25.fdiv (2 ^ (min (IntKind.u64.wrap n).toNat IntKind.u32.bits))) (1 : Int)) == (1 : Int)) (
  0 ≤ k ∧ k < (((x22.n : Int).toNat : Nat) : Int) ∧ (∃ x26 : Int, rd H12 ((⟨H8.size, 0, none⟩ : Addr).add (k.toNat * 1)) = some (.int .i64 x26) ∧ (
  iteB (decide (x26 < (0 : Int))) (
  J_1 true H12) (
  0 ≤ n ∧ n < ((32 : Nat) : Int) ∧ (∃ x27 : Int, rd H12 ((⟨H5.size, 0, none⟩ : Addr).add (n.toNat * 1)) = some (.int .i64 x27) ∧ (
  0 ≤ k ∧ k < (((x22.n : Int).toNat : Nat) : Int) ∧ (∃ x28 : Int, rd H12 ((⟨H8.size, 0, none⟩ : Addr).add (k.toNat * 1)) = some (.int .i64 x28) ∧ (
  0 ≤ x28 ∧ x28 < ((32 : Nat) : Int) ∧ (∃ x29 : Int, rd H12 ((⟨H5.size, 0, none⟩ : Addr).add (x28.toNat * 1)) = some (.int .i64 x29) ∧ (
  J_1 (decide (x27 < x29)) H12)))))))))) (
  J_1 false H12))))))) ∧ (∀ x30 : Bool, ∀ H13 : Heap, J_1 x30 H13 → F_ref21_Connect_k1 H8 x22 k I_2 M_2 n H12 x30 H13)) (
  J_ H12)))) (
  J_ H12)

def F_ref21_Connect_k3 (R : Value → Heap → Prop) (H3 : Heap) (x10 : Sl) (H5 : Heap) (H8 : Heap) (x22 : Sl) (I_1 : Int → Heap → Prop) (M_1 : Int → Heap → Nat) (k : Int) (H10 : Heap) (H15 : Heap) : Prop :=
  0 ≤ k ∧ k < (((x10.n : Int).toNat : Nat) : Int) ∧ (∃ x31 : Int, rd H15 ((⟨H3.size, 0, none⟩ : Addr).add (k.toNat * 1)) = some (.int .i64 x31) ∧ (
  iteB (decide (x31 > (0 : Int))) (
  0 ≤ k ∧ k < (((x22.n : Int).toNat : Nat) : Int) ∧ (∃ x32 : Int, rd H15 ((⟨H8.size, 0, none⟩ : Addr).add (k.toNat * 1)) = some (.int .i64 x32) ∧ (
  iteB (decide (x32 < (0 : Int))) (
  R (.tuple #[.slice none 0 0, .int .i64 (19 : Int)]) H15) (
  0 ≤ k ∧ k < (((x22.n : Int).toNat : Nat) : Int) ∧ (∃ x33 : Int, rd H15 ((⟨H8.size, 0, none⟩ : Addr).add (k.toNat * 1)) = some (.int .i64 x33) ∧ (
  0 ≤ x33 ∧ x33 < ((32 : Nat) : Int) ∧ (∃ x34 : Int, rd H15 ((⟨H5.size, 0, none⟩ : Addr).add (x33.toNat * 1)) = some (.int .i64 x34) ∧ (
  0 ≤ k ∧ k < (((x10.n : Int).toNat : Nat) : Int) ∧ (∃ x35 : Int, rd H15 ((⟨H3.size, 0, none⟩ : Addr).add (k.toNat * 1)) = some (.int .i64 x35) ∧ (
  0 ≤ x33 ∧ x33 < ((32 : Nat) : Int) ∧ (okRow H15 ((⟨H5.size, 0, none⟩ : Addr).add (x33.toNat * 1)) 1 ∧ (
  letH (wrs H15 ((⟨H5.size, 0, none⟩ : Addr).add (x33.toNat * 1)) [.int .i64 (IntKind.i64.wrap (x34 + x35))]) (fun H16 : Heap =>
  letV (IntKind.i64.wrap (k + (1 : Int))) (fun k1 : Int =>
  I_1 k1 H16 ∧ M_1 k1 H16 < M_1 k H10)))))))))))))) (
  letV (IntKind.i64.wrap (k + (1 : Int))) (fun k2 : Int =>
  I_1 k2 H15 ∧ M_1 k2 H15 < M_1 k H10))))

def F_ref21_Connect_r4 (R : Value → Heap → Prop) (H : Heap) (H3 : Heap) (x10 : Sl) (H5 : Heap) (H8 : Heap) (x22 : Sl) (I_1 : Int → Heap → Prop) (M_1 : Int → Heap → Nat) (k : Int) (H10 : Heap) : Prop :=
  iteB (decide (k < (((x22.n : Int).toNat : Nat) : Int))) (
  0 ≤ k ∧ k < (((x22.n : Int).toNat : Nat) : Int) ∧ (okRow H10 ((⟨H8.size, 0, none⟩ : Addr).add (k.toNat * 1)) 1 ∧ (
  letH (wrs H10 ((⟨H8.size, 0, none⟩ : Addr).add (k.toNat * 1)) [.int .i64 (-1 : Int)]) (fun H11 : Heap =>
  ∃ J_ : Heap → Prop, (
  ∃ I_2 : Int → Heap → Prop, ∃ M_2 : Int → Heap → Nat, I_2 (0 : Int) H11 ∧ (∀ n : Int, ∀ H12 : Heap, I_2 n H12 → F_ref21_Connect_r2 H H3 x10 H5 H8 x22 k J_ I_2 M_2 n H12)) ∧ (∀ H15 : Heap, J_ H15 → F_ref21_Connect_k3 R H3 x10 H5 H8 x22 I_1 M_1 k H10 H15))))) (
  R (.tuple #[.slice (some (⟨H8.size, 0, none⟩ : Addr)) ((x22.n : Int).toNat) ((x22.n : Int).toNat), .int .i64 (0 : Int)]) H10)

def F_ref21_Connect_r5 (R : Value → Heap → Prop) (H : Heap) (l : Sl) (H3 : Heap) (x10 : Sl) (I_ : Int → Heap → Prop) (M_ : Int → Heap → Nat) (i : Int) (H5 : Heap) : Prop :=
  iteB (decide (i < (l.n : Int))) (
  ∃ x11 : Int, rd H5 (⟨H.size, 0, none⟩ : Addr) = some (.int .i64 x11) ∧ ∃ x12 : Sl, rd H5 ((⟨H.size, 0, none⟩ : Addr).add 1) = some (.slice x12.p x12.n x12.c) ∧ ∃ x13 : Sl, rd H5 ((⟨H.size, 0, none⟩ : Addr).add 2) = some (.slice x13.p x13.n x13.c) ∧ ∃ x14 : Sl, rd H5 ((⟨H.size, 0, none⟩ : Addr).add 3) = some (.slice x14.p x14.n x14.c) ∧ ∃ x15 : Sl, rd H5 ((⟨H.size, 0, none⟩ : Addr).add 4) = some (.slice x15.p x15.n x15.c) ∧ ∃ x16 : Sl, rd H5 ((⟨H.size, 0, none⟩ : Addr).add 5) = some (.slice x16.p x16.n x16.c) ∧ ∃ x17 : Sl, rd H5 ((⟨H.size, 0, none⟩ : Addr).add 6) = some (.slice x17.p x17.n x17.c) ∧ ∃ x18 : Sl, rd H5 ((⟨H.size, 0, none⟩ : Addr).add 7) = some (.slice x18.p x18.n x18.c) ∧ (
  CallsH Tryd.prog n_ref21_LinkOf #[.slice l.p l.n l.c, .agg #[.int .i64 x11, .slice x12.p x12.n x12.c, .slice x13.p x13.n x13.c, .slice x14.p x14.n x14.c, .slice x15.p x15.n x15.c, .slice x16.p x16.n x16.c, .slice x17.p x17.n x17.c, .slice x18.p x18.n x18.c], .int .i64 i] H5 (fun v2 H6 =>
  ∃ x19 : Int, ∃ x20 : Bool, v2 = .tuple #[.int .i64 x19, .bool x20] ∧ (
  iteB x20 (
  0 ≤ x19 ∧ x19 < (((x10.n : Int).toNat : Nat) : Int) ∧ (∃ x21 : Int, rd H6 ((⟨H3.size, 0, none⟩ : Addr).add (x19.toNat * 1)) = some (.int .i64 x21) ∧ (
  0 ≤ x19 ∧ x19 < (((x10.n : Int).toNat : Nat) : Int) ∧ (okRow H6 ((⟨H3.size, 0, none⟩ : Addr).add (x19.toNat * 1)) 1 ∧ (
  letH (wrs H6 ((⟨H3.size, 0, none⟩ : Addr).add (x19.toNat * 1)) [.int .i64 (IntKind.i64.wrap (x21 + (1 : Int)))]) (fun H7 : Heap =>
  letV (IntKind.i64.wrap (i + (1 : Int))) (fun i1 : Int =>
  I_ i1 H7 ∧ M_ i1 H7 < M_ i H5))))))) (
  letV (IntKind.i64.wrap (i + (1 : Int))) (fun i2 : Int =>
  I_ i2 H6 ∧ M_ i2 H6 < M_ i H5)))))) (
  letH (H5.push (.cells #[.int .i64 (0 : Int), .int .i64 (0 : Int), .int .i64 (0 : Int), .int .i64 (0 : Int), .int .i64 (0 : Int), .int .i64 (0 : Int), .int .i64 (0 : Int), .int .i64 (0 : Int), .int .i64 (0 : Int), .int .i64 (0 : Int), .int .i64 (0 : Int), .int .i64 (0 : Int), .int .i64 (0 : Int), .int .i64 (0 : Int), .int .i64 (0 : Int), .int .i64 (0 : Int), .int .i64 (0 : Int), .int .i64 (0 : Int), .int .i64 (0 : Int), .int .i64 (0 : Int), .int .i64 (0 : Int), .int .i64 (0 : Int), .int .i64 (0 : Int), .int .i64 (0 : Int), .int .i64 (0 : Int), .int .i64 (0 : Int), .int .i64 (0 : Int), .int .i64 (0 : Int), .int .i64 (0 : Int), .int .i64 (0 : Int), .int .i64 (0 : Int), .int .i64 (0 : Int)] t_32_int (0, 0))) (fun H8 : Heap =>
  ∃ x22 : Sl, rd H8 ((⟨H.size, 0, none⟩ : Addr).add 6) = some (.slice x22.p x22.n x22.c) ∧ (
  0 ≤ (x22.n : Int) ∧ (x22.n : Int) ≤ (x22.n : Int) ∧ (x22.n : Int) * ((8 : Nat) : Int) ≤ 281474976710656 ∧ (
  letH (H8.push (.cells (zeroRow (.int .i64 (0 : Int)) (x22.n : Int).toNat) t_int (0, 0))) (fun H9 : Heap =>
  ∃ I_1 : Int → Heap → Prop, ∃ M_1 : Int → Heap → Nat, I_1 (0 : Int) H9 ∧ (∀ k : Int, ∀ H10 : Heap, I_1 k H10 → F_ref21_Connect_r4 R H H3 x10 H5 H8 x22 I_1 M_1 k H10))))))

def F_ref21_Connect (R : Value → Heap → Prop) (l : Sl) (h_0 : Int) (h_1 : Sl) (h_2 : Sl) (h_3 : Sl) (h_4 : Sl) (h_5 : Sl) (h_6 : Sl) (h_7 : Sl) (H : Heap) : Prop :=
  letH (H.push (.cells #[.int .i64 h_0, .slice h_1.p h_1.n h_1.c, .slice h_2.p h_2.n h_2.c, .slice h_3.p h_3.n h_3.c, .slice h_4.p h_4.n h_4.c, .slice h_5.p h_5.n h_5.c, .slice h_6.p h_6.n h_6.c, .slice h_7.p h_7.n h_7.c] t_api_Host (0, 0))) (fun H1 : Heap =>
  CallsH Tryd.prog n_ref18_Valid #[.slice l.p l.n l.c] H1 (fun v H2 =>
  ∃ x : Bool, v = .bool x ∧ (
  iteB (!x) (
  R (.tuple #[.slice none 0 0, .int .i64 (1 : Int)]) H2) (
  ∃ x1 : Int, rd H2 (⟨H.size, 0, none⟩ : Addr) = some (.int .i64 x1) ∧ ∃ x2 : Sl, rd H2 ((⟨H.size, 0, none⟩ : Addr).add 1) = some (.slice x2.p x2.n x2.c) ∧ ∃ x3 : Sl, rd H2 ((⟨H.size, 0, none⟩ : Addr).add 2) = some (.slice x3.p x3.n x3.c) ∧ ∃ x4 : Sl, rd H2 ((⟨H.size, 0, none⟩ : Addr).add 3) = some (.slice x4.p x4.n x4.c) ∧ ∃ x5 : Sl, rd H2 ((⟨H.size, 0, none⟩ : Addr).add 4) = some (.slice x5.p x5.n x5.c) ∧ ∃ x6 : Sl, rd H2 ((⟨H.size, 0, none⟩ : Addr).add 5) = some (.slice x6.p x6.n x6.c) ∧ ∃ x7 : Sl, rd H2 ((⟨H.size, 0, none⟩ : Addr).add 6) = some (.slice x7.p x7.n x7.c) ∧ ∃ x8 : Sl, rd H2 ((⟨H.size, 0, none⟩ : Addr).add 7) = some (.slice x8.p x8.n x8.c) ∧ (
  CallsH Tryd.prog n_ref21_ValidHost #[.agg #[.int .i64 x1, .slice x2.p x2.n x2.c, .slice x3.p x3.n x3.c, .slice x4.p x4.n x4.c, .slice x5.p x5.n x5.c, .slice x6.p x6.n x6.c, .slice x7.p x7.n x7.c, .slice x8.p x8.n x8.c]] H2 (fun v1 H3 =>
  ∃ x9 : Bool, v1 = .bool x9 ∧ (
  iteB (!x9) (
  R (.tuple #[.slice none 0 0, .int .i64 (1 : Int)]) H3) (
  ∃ x10 : Sl, rd H3 ((⟨H.size, 0, none⟩ : Addr).add 6) = some (.slice x10.p x10.n x10.c) ∧ (
  0 ≤ (x10.n : Int) ∧ (x10.n : Int) ≤ (x10.n : Int) ∧ (x10.n : Int) * ((8 : Nat) : Int) ≤ 281474976710656 ∧ (
  letH (H3.push (.cells (zeroRow (.int .i64 (0 : Int)) (x10.n : Int).toNat) t_int (0, 0))) (fun H4 : Heap =>
  ∃ I_ : Int → Heap → Prop, ∃ M_ : Int → Heap → Nat, I_ (0 : Int) H4 ∧ (∀ i : Int, ∀ H5 : Heap, I_ i H5 → F_ref21_Connect_r5 R H l H3 x10 I_ M_ i H5))))))))))))

theorem F_ref21_Connect_eq (R : Value → Heap → Prop) (l : Sl) (h_0 : Int) (h_1 : Sl) (h_2 : Sl) (h_3 : Sl) (h_4 : Sl) (h_5 : Sl) (h_6 : Sl) (h_7 : Sl) (H : Heap) : wpF Tryd.prog Tryd.f10 [(7, .int .i64 0), (12, .int .i64 0), (13, .int .i64 0), (99, .bool false)] [(21, [], [3, 6, 10, 11, 12]), (20, [99], [3, 6, 10, 11, 12, 13])] [(5, [7], [0, 3, 6]), (13, [12], [3, 6, 10, 11]), (17, [13], [3, 6, 10, 11, 12])] [6] [.slice l.p l.n l.c, .agg #[.int .i64 h_0, .slice h_1.p h_1.n h_1.c, .slice h_2.p h_2.n h_2.c, .slice h_3.p h_3.n h_3.c, .slice h_4.p h_4.n h_4.c, .slice h_5.p h_5.n h_5.c, .slice h_6.p h_6.n h_6.c, .slice h_7.p h_7.n h_7.c]] H R = F_ref21_Connect R l h_0 h_1 h_2 h_3 h_4 h_5 h_6 h_7 H := by kernel_rfl

theorem F_ref21_Connect_ok {R : Value → Heap → Prop} (l : Sl) (h_0 : Int) (h_1 : Sl) (h_2 : Sl) (h_3 : Sl) (h_4 : Sl) (h_5 : Sl) (h_6 : Sl) (h_7 : Sl) {H : Heap} (h : F_ref21_Connect R l h_0 h_1 h_2 h_3 h_4 h_5 h_6 h_7 H) : CallsH Tryd.prog n_ref21_Connect #[.slice l.p l.n l.c, .agg #[.int .i64 h_0, .slice h_1.p h_1.n h_1.c, .slice h_2.p h_2.n h_2.c, .slice h_3.p h_3.n h_3.c, .slice h_4.p h_4.n h_4.c, .slice h_5.p h_5.n h_5.c, .slice h_6.p h_6.n h_6.c, .slice h_7.p h_7.n h_7.c]] H R :=
  wpF_ok Tryd.func10 (F_ref21_Connect_eq R l h_0 h_1 h_2 h_3 h_4 h_5 h_6 h_7 H) h

/-! ### 11: platformfw/interrupts.Lines -/

def F_interrupts_Lines_r1 (R : Value → Heap → Prop) (H : Heap) (l : Sl) (H2 : Heap) (x8 : Sl) (I_ : Int → Heap → Prop) (M_ : Int → Heap → Nat) (x10 : Int) (H4 : Heap) : Prop :=
  iteB (decide (x10 < (l.n : Int))) (
  0 ≤ x10 ∧ x10 < (((l.n : Int).toNat : Nat) : Int) ∧ (okRow H4 ((⟨H2.size, 0, none⟩ : Addr).add (x10.toNat * 1)) 1 ∧ (
  letH (wrs H4 ((⟨H2.size, 0, none⟩ : Addr).add (x10.toNat * 1)) [.int .i64 (-1 : Int)]) (fun H5 : Heap =>
  ∃ x11 : Int, rd H5 (⟨H.size, 0, none⟩ : Addr) = some (.int .i64 x11) ∧ ∃ x12 : Sl, rd H5 ((⟨H.size, 0, none⟩ : Addr).add 1) = some (.slice x12.p x12.n x12.c) ∧ ∃ x13 : Sl, rd H5 ((⟨H.size, 0, none⟩ : Addr).add 2) = some (.slice x13.p x13.n x13.c) ∧ ∃ x14 : Sl, rd H5 ((⟨H.size, 0, none⟩ : Addr).add 3) = some (.slice x14.p x14.n x14.c) ∧ ∃ x15 : Sl, rd H5 ((⟨H.size, 0, none⟩ : Addr).add 4) = some (.slice x15.p x15.n x15.c) ∧ ∃ x16 : Sl, rd H5 ((⟨H.size, 0, none⟩ : Addr).add 5) = some (.slice x16.p x16.n x16.c) ∧ ∃ x17 : Sl, rd H5 ((⟨H.size, 0, none⟩ : Addr).add 6) = some (.slice x17.p x17.n x17.c) ∧ ∃ x18 : Sl, rd H5 ((⟨H.size, 0, none⟩ : Addr).add 7) = some (.slice x18.p x18.n x18.c) ∧ (
  CallsH Tryd.prog n_interrupts_LinkOf #[.slice l.p l.n l.c, .agg #[.int .i64 x11, .slice x12.p x12.n x12.c, .slice x13.p x13.n x13.c, .slice x14.p x14.n x14.c, .slice x15.p x15.n x15.c, .slice x16.p x16.n x16.c, .slice x17.p x17.n x17.c, .slice x18.p x18.n x18.c], .int .i64 x10] H5 (fun v1 H6 =>
  ∃ x19 : Int, ∃ x20 : Bool, v1 = .tuple #[.int .i64 x19, .bool x20] ∧ (
  iteB x20 (
  0 ≤ x19 ∧ x19 < (x8.n : Int) ∧ (unSome x8.p (fun a =>
  ∃ x21 : Int, rd H6 (a.add (x19.toNat * 1)) = some (.int .i64 x21) ∧ (
  0 ≤ x10 ∧ x10 < (((l.n : Int).toNat : Nat) : Int) ∧ (okRow H6 ((⟨H2.size, 0, none⟩ : Addr).add (x10.toNat * 1)) 1 ∧ (
  letH (wrs H6 ((⟨H2.size, 0, none⟩ : Addr).add (x10.toNat * 1)) [.int .i64 x21]) (fun H7 : Heap =>
  I_ (IntKind.i64.wrap (x10 + (1 : Int))) H7 ∧ M_ (IntKind.i64.wrap (x10 + (1 : Int))) H7 < M_ x10 H4))))))) (
  I_ (IntKind.i64.wrap (x10 + (1 : Int))) H6 ∧ M_ (IntKind.i64.wrap (x10 + (1 : Int))) H6 < M_ x10 H4)))))))) (
  R (.tuple #[.slice (some (⟨H2.size, 0, none⟩ : Addr)) ((l.n : Int).toNat) ((l.n : Int).toNat), .int .i64 (0 : Int)]) H4)

def F_interrupts_Lines (R : Value → Heap → Prop) (l : Sl) (h_0 : Int) (h_1 : Sl) (h_2 : Sl) (h_3 : Sl) (h_4 : Sl) (h_5 : Sl) (h_6 : Sl) (h_7 : Sl) (H : Heap) : Prop :=
  letH (H.push (.cells #[.int .i64 h_0, .slice h_1.p h_1.n h_1.c, .slice h_2.p h_2.n h_2.c, .slice h_3.p h_3.n h_3.c, .slice h_4.p h_4.n h_4.c, .slice h_5.p h_5.n h_5.c, .slice h_6.p h_6.n h_6.c, .slice h_7.p h_7.n h_7.c] t_api_Host (0, 0))) (fun H1 : Heap =>
  ∃ x : Int, rd H1 (⟨H.size, 0, none⟩ : Addr) = some (.int .i64 x) ∧ ∃ x1 : Sl, rd H1 ((⟨H.size, 0, none⟩ : Addr).add 1) = some (.slice x1.p x1.n x1.c) ∧ ∃ x2 : Sl, rd H1 ((⟨H.size, 0, none⟩ : Addr).add 2) = some (.slice x2.p x2.n x2.c) ∧ ∃ x3 : Sl, rd H1 ((⟨H.size, 0, none⟩ : Addr).add 3) = some (.slice x3.p x3.n x3.c) ∧ ∃ x4 : Sl, rd H1 ((⟨H.size, 0, none⟩ : Addr).add 4) = some (.slice x4.p x4.n x4.c) ∧ ∃ x5 : Sl, rd H1 ((⟨H.size, 0, none⟩ : Addr).add 5) = some (.slice x5.p x5.n x5.c) ∧ ∃ x6 : Sl, rd H1 ((⟨H.size, 0, none⟩ : Addr).add 6) = some (.slice x6.p x6.n x6.c) ∧ ∃ x7 : Sl, rd H1 ((⟨H.size, 0, none⟩ : Addr).add 7) = some (.slice x7.p x7.n x7.c) ∧ (
  CallsH Tryd.prog n_interrupts_Connect #[.slice l.p l.n l.c, .agg #[.int .i64 x, .slice x1.p x1.n x1.c, .slice x2.p x2.n x2.c, .slice x3.p x3.n x3.c, .slice x4.p x4.n x4.c, .slice x5.p x5.n x5.c, .slice x6.p x6.n x6.c, .slice x7.p x7.n x7.c]] H1 (fun v H2 =>
  ∃ x8 : Sl, ∃ x9 : Int, v = .tuple #[.slice x8.p x8.n x8.c, .int .i64 x9] ∧ (
  iteB (x9 != (0 : Int)) (
  R (.tuple #[.slice none 0 0, .int .i64 x9]) H2) (
  0 ≤ (l.n : Int) ∧ (l.n : Int) ≤ (l.n : Int) ∧ (l.n : Int) * ((8 : Nat) : Int) ≤ 281474976710656 ∧ (
  letH (H2.push (.cells (zeroRow (.int .i64 (0 : Int)) (l.n : Int).toNat) t_int (0, 0))) (fun H3 : Heap =>
  ∃ I_ : Int → Heap → Prop, ∃ M_ : Int → Heap → Nat, I_ (0 : Int) H3 ∧ (∀ x10 : Int, ∀ H4 : Heap, I_ x10 H4 → F_interrupts_Lines_r1 R H l H2 x8 I_ M_ x10 H4))))))))

theorem F_interrupts_Lines_eq (R : Value → Heap → Prop) (l : Sl) (h_0 : Int) (h_1 : Sl) (h_2 : Sl) (h_3 : Sl) (h_4 : Sl) (h_5 : Sl) (h_6 : Sl) (h_7 : Sl) (H : Heap) : wpF Tryd.prog Tryd.f11 [(26, .int .i64 0)] [] [(6, [26], [0, 3, 6, 8, 25])] [6] [.slice l.p l.n l.c, .agg #[.int .i64 h_0, .slice h_1.p h_1.n h_1.c, .slice h_2.p h_2.n h_2.c, .slice h_3.p h_3.n h_3.c, .slice h_4.p h_4.n h_4.c, .slice h_5.p h_5.n h_5.c, .slice h_6.p h_6.n h_6.c, .slice h_7.p h_7.n h_7.c]] H R = F_interrupts_Lines R l h_0 h_1 h_2 h_3 h_4 h_5 h_6 h_7 H := by kernel_rfl

theorem F_interrupts_Lines_ok {R : Value → Heap → Prop} (l : Sl) (h_0 : Int) (h_1 : Sl) (h_2 : Sl) (h_3 : Sl) (h_4 : Sl) (h_5 : Sl) (h_6 : Sl) (h_7 : Sl) {H : Heap} (h : F_interrupts_Lines R l h_0 h_1 h_2 h_3 h_4 h_5 h_6 h_7 H) : CallsH Tryd.prog n_interrupts_Lines #[.slice l.p l.n l.c, .agg #[.int .i64 h_0, .slice h_1.p h_1.n h_1.c, .slice h_2.p h_2.n h_2.c, .slice h_3.p h_3.n h_3.c, .slice h_4.p h_4.n h_4.c, .slice h_5.p h_5.n h_5.c, .slice h_6.p h_6.n h_6.c, .slice h_7.p h_7.n h_7.c]] H R :=
  wpF_ok Tryd.func11 (F_interrupts_Lines_eq R l h_0 h_1 h_2 h_3 h_4 h_5 h_6 h_7 H) h

/-! ### 12: platformfw/platformfwref21.Lines -/

def F_ref21_Lines_r1 (R : Value → Heap → Prop) (H : Heap) (l : Sl) (H2 : Heap) (x8 : Sl) (I_ : Int → Heap → Prop) (M_ : Int → Heap → Nat) (i : Int) (H4 : Heap) : Prop :=
  iteB (decide (i < (l.n : Int))) (
  0 ≤ i ∧ i < (((l.n : Int).toNat : Nat) : Int) ∧ (okRow H4 ((⟨H2.size, 0, none⟩ : Addr).add (i.toNat * 1)) 1 ∧ (
  letH (wrs H4 ((⟨H2.size, 0, none⟩ : Addr).add (i.toNat * 1)) [.int .i64 (-1 : Int)]) (fun H5 : Heap =>
  ∃ x10 : Int, rd H5 (⟨H.size, 0, none⟩ : Addr) = some (.int .i64 x10) ∧ ∃ x11 : Sl, rd H5 ((⟨H.size, 0, none⟩ : Addr).add 1) = some (.slice x11.p x11.n x11.c) ∧ ∃ x12 : Sl, rd H5 ((⟨H.size, 0, none⟩ : Addr).add 2) = some (.slice x12.p x12.n x12.c) ∧ ∃ x13 : Sl, rd H5 ((⟨H.size, 0, none⟩ : Addr).add 3) = some (.slice x13.p x13.n x13.c) ∧ ∃ x14 : Sl, rd H5 ((⟨H.size, 0, none⟩ : Addr).add 4) = some (.slice x14.p x14.n x14.c) ∧ ∃ x15 : Sl, rd H5 ((⟨H.size, 0, none⟩ : Addr).add 5) = some (.slice x15.p x15.n x15.c) ∧ ∃ x16 : Sl, rd H5 ((⟨H.size, 0, none⟩ : Addr).add 6) = some (.slice x16.p x16.n x16.c) ∧ ∃ x17 : Sl, rd H5 ((⟨H.size, 0, none⟩ : Addr).add 7) = some (.slice x17.p x17.n x17.c) ∧ (
  CallsH Tryd.prog n_ref21_LinkOf #[.slice l.p l.n l.c, .agg #[.int .i64 x10, .slice x11.p x11.n x11.c, .slice x12.p x12.n x12.c, .slice x13.p x13.n x13.c, .slice x14.p x14.n x14.c, .slice x15.p x15.n x15.c, .slice x16.p x16.n x16.c, .slice x17.p x17.n x17.c], .int .i64 i] H5 (fun v1 H6 =>
  ∃ x18 : Int, ∃ x19 : Bool, v1 = .tuple #[.int .i64 x18, .bool x19] ∧ (
  iteB x19 (
  0 ≤ x18 ∧ x18 < (x8.n : Int) ∧ (unSome x8.p (fun a =>
  ∃ x20 : Int, rd H6 (a.add (x18.toNat * 1)) = some (.int .i64 x20) ∧ (
  0 ≤ i ∧ i < (((l.n : Int).toNat : Nat) : Int) ∧ (okRow H6 ((⟨H2.size, 0, none⟩ : Addr).add (i.toNat * 1)) 1 ∧ (
  letH (wrs H6 ((⟨H2.size, 0, none⟩ : Addr).add (i.toNat * 1)) [.int .i64 x20]) (fun H7 : Heap =>
  letV (IntKind.i64.wrap (i + (1 : Int))) (fun i1 : Int =>
  I_ i1 H7 ∧ M_ i1 H7 < M_ i H4)))))))) (
  letV (IntKind.i64.wrap (i + (1 : Int))) (fun i2 : Int =>
  I_ i2 H6 ∧ M_ i2 H6 < M_ i H4))))))))) (
  R (.tuple #[.slice (some (⟨H2.size, 0, none⟩ : Addr)) ((l.n : Int).toNat) ((l.n : Int).toNat), .int .i64 (0 : Int)]) H4)

def F_ref21_Lines (R : Value → Heap → Prop) (l : Sl) (h_0 : Int) (h_1 : Sl) (h_2 : Sl) (h_3 : Sl) (h_4 : Sl) (h_5 : Sl) (h_6 : Sl) (h_7 : Sl) (H : Heap) : Prop :=
  letH (H.push (.cells #[.int .i64 h_0, .slice h_1.p h_1.n h_1.c, .slice h_2.p h_2.n h_2.c, .slice h_3.p h_3.n h_3.c, .slice h_4.p h_4.n h_4.c, .slice h_5.p h_5.n h_5.c, .slice h_6.p h_6.n h_6.c, .slice h_7.p h_7.n h_7.c] t_api_Host (0, 0))) (fun H1 : Heap =>
  ∃ x : Int, rd H1 (⟨H.size, 0, none⟩ : Addr) = some (.int .i64 x) ∧ ∃ x1 : Sl, rd H1 ((⟨H.size, 0, none⟩ : Addr).add 1) = some (.slice x1.p x1.n x1.c) ∧ ∃ x2 : Sl, rd H1 ((⟨H.size, 0, none⟩ : Addr).add 2) = some (.slice x2.p x2.n x2.c) ∧ ∃ x3 : Sl, rd H1 ((⟨H.size, 0, none⟩ : Addr).add 3) = some (.slice x3.p x3.n x3.c) ∧ ∃ x4 : Sl, rd H1 ((⟨H.size, 0, none⟩ : Addr).add 4) = some (.slice x4.p x4.n x4.c) ∧ ∃ x5 : Sl, rd H1 ((⟨H.size, 0, none⟩ : Addr).add 5) = some (.slice x5.p x5.n x5.c) ∧ ∃ x6 : Sl, rd H1 ((⟨H.size, 0, none⟩ : Addr).add 6) = some (.slice x6.p x6.n x6.c) ∧ ∃ x7 : Sl, rd H1 ((⟨H.size, 0, none⟩ : Addr).add 7) = some (.slice x7.p x7.n x7.c) ∧ (
  CallsH Tryd.prog n_ref21_Connect #[.slice l.p l.n l.c, .agg #[.int .i64 x, .slice x1.p x1.n x1.c, .slice x2.p x2.n x2.c, .slice x3.p x3.n x3.c, .slice x4.p x4.n x4.c, .slice x5.p x5.n x5.c, .slice x6.p x6.n x6.c, .slice x7.p x7.n x7.c]] H1 (fun v H2 =>
  ∃ x8 : Sl, ∃ x9 : Int, v = .tuple #[.slice x8.p x8.n x8.c, .int .i64 x9] ∧ (
  iteB (x9 != (0 : Int)) (
  R (.tuple #[.slice none 0 0, .int .i64 x9]) H2) (
  0 ≤ (l.n : Int) ∧ (l.n : Int) ≤ (l.n : Int) ∧ (l.n : Int) * ((8 : Nat) : Int) ≤ 281474976710656 ∧ (
  letH (H2.push (.cells (zeroRow (.int .i64 (0 : Int)) (l.n : Int).toNat) t_int (0, 0))) (fun H3 : Heap =>
  ∃ I_ : Int → Heap → Prop, ∃ M_ : Int → Heap → Nat, I_ (0 : Int) H3 ∧ (∀ i : Int, ∀ H4 : Heap, I_ i H4 → F_ref21_Lines_r1 R H l H2 x8 I_ M_ i H4))))))))

theorem F_ref21_Lines_eq (R : Value → Heap → Prop) (l : Sl) (h_0 : Int) (h_1 : Sl) (h_2 : Sl) (h_3 : Sl) (h_4 : Sl) (h_5 : Sl) (h_6 : Sl) (h_7 : Sl) (H : Heap) : wpF Tryd.prog Tryd.f12 [(9, .int .i64 0)] [] [(6, [9], [0, 3, 6, 8])] [6] [.slice l.p l.n l.c, .agg #[.int .i64 h_0, .slice h_1.p h_1.n h_1.c, .slice h_2.p h_2.n h_2.c, .slice h_3.p h_3.n h_3.c, .slice h_4.p h_4.n h_4.c, .slice h_5.p h_5.n h_5.c, .slice h_6.p h_6.n h_6.c, .slice h_7.p h_7.n h_7.c]] H R = F_ref21_Lines R l h_0 h_1 h_2 h_3 h_4 h_5 h_6 h_7 H := by kernel_rfl

theorem F_ref21_Lines_ok {R : Value → Heap → Prop} (l : Sl) (h_0 : Int) (h_1 : Sl) (h_2 : Sl) (h_3 : Sl) (h_4 : Sl) (h_5 : Sl) (h_6 : Sl) (h_7 : Sl) {H : Heap} (h : F_ref21_Lines R l h_0 h_1 h_2 h_3 h_4 h_5 h_6 h_7 H) : CallsH Tryd.prog n_ref21_Lines #[.slice l.p l.n l.c, .agg #[.int .i64 h_0, .slice h_1.p h_1.n h_1.c, .slice h_2.p h_2.n h_2.c, .slice h_3.p h_3.n h_3.c, .slice h_4.p h_4.n h_4.c, .slice h_5.p h_5.n h_5.c, .slice h_6.p h_6.n h_6.c, .slice h_7.p h_7.n h_7.c]] H R :=
  wpF_ok Tryd.func12 (F_ref21_Lines_eq R l h_0 h_1 h_2 h_3 h_4 h_5 h_6 h_7 H) h

/-! ### 13: platformfw/platformfwhelp.Equal[int] -/

def F_help_Equal_int_r1 (R : Value → Heap → Prop) (a : Sl) (b : Sl) (I_ : Int → Heap → Prop) (M_ : Int → Heap → Nat) (i : Int) (H1 : Heap) : Prop :=
  iteB (decide (i < (a.n : Int))) (
  0 ≤ i ∧ i < (a.n : Int) ∧ (unSome a.p (fun a1 =>
  ∃ x : Int, rd H1 (a1.add (i.toNat * 1)) = some (.int .i64 x) ∧ (
  0 ≤ i ∧ i < (b.n : Int) ∧ (unSome b.p (fun a2 =>
  ∃ x1 : Int, rd H1 (a2.add (i.toNat * 1)) = some (.int .i64 x1) ∧ (
  iteB (x != x1) (
  R (.bool false) H1) (
  letV (IntKind.i64.wrap (i + (1 : Int))) (fun i1 : Int =>
  I_ i1 H1 ∧ M_ i1 H1 < M_ i H1))))))))) (
  R (.bool true) H1)

def F_help_Equal_int (R : Value → Heap → Prop) (a : Sl) (b : Sl) (H : Heap) : Prop :=
  iteB ((a.n : Int) != (b.n : Int)) (
  R (.bool false) H) (
  ∃ I_ : Int → Heap → Prop, ∃ M_ : Int → Heap → Nat, I_ (0 : Int) H ∧ (∀ i : Int, ∀ H1 : Heap, I_ i H1 → F_help_Equal_int_r1 R a b I_ M_ i H1))

theorem F_help_Equal_int_eq (R : Value → Heap → Prop) (a : Sl) (b : Sl) (H : Heap) : wpF Tryd.prog Tryd.f13 [(5, .int .i64 0)] [] [(4, [5], [0, 1])] [6] [.slice a.p a.n a.c, .slice b.p b.n b.c] H R = F_help_Equal_int R a b H := by kernel_rfl

theorem F_help_Equal_int_ok {R : Value → Heap → Prop} (a : Sl) (b : Sl) {H : Heap} (h : F_help_Equal_int R a b H) : CallsH Tryd.prog n_help_Equal_int #[.slice a.p a.n a.c, .slice b.p b.n b.c] H R :=
  wpF_ok Tryd.func13 (F_help_Equal_int_eq R a b H) h

/-! ### 14: platformfw/platformfwgen.Host -/

def F_gen_Host_k1 (H3 : Heap) (I_ : Int → Heap → Prop) (M_ : Int → Heap → Nat) (i : Int) (H27 : Heap) (H31 : Heap) : Prop :=
  ∃ x22 : Sl, rd H31 ((⟨H3.size, 0, none⟩ : Addr).add 6) = some (.slice x22.p x22.n x22.c) ∧ (
  ∃ x23 : Int, rd H31 (⟨H27.size, 0, none⟩ : Addr) = some (.int .u32 x23) ∧ (
  letH (H31.push (.cells #[.int .u32 x23] t_api_IntLink (0, 0))) (fun H32 : Heap =>
  runH Tryd.prog (Builtin.append_ #[t_sl_api_IntLink, t_sl_api_IntLink] t_sl_api_IntLink #[.slice x22.p x22.n x22.c, .slice (some (⟨H31.size, 0, none⟩ : Addr)) 1 1]) H32 (fun v8 H33 =>
  ∃ x24 : Sl, v8 = .slice x24.p x24.n x24.c ∧ (
  okRow H33 ((⟨H3.size, 0, none⟩ : Addr).add 6) 1 ∧ (
  letH (wrs H33 ((⟨H3.size, 0, none⟩ : Addr).add 6) [.slice x24.p x24.n x24.c]) (fun H34 : Heap =>
  letV (IntKind.i64.wrap (i + (1 : Int))) (fun i1 : Int =>
  I_ i1 H34 ∧ M_ i1 H34 < M_ i H27))))))))

def F_gen_Host_r2 (H : Heap) (H3 : Heap) (J_2 : Heap → Prop) (I_ : Int → Heap → Prop) (M_ : Int → Heap → Nat) (i : Int) (H27 : Heap) : Prop :=
  ∃ x18 : Sl, rd H27 ((⟨H.size, 0, none⟩ : Addr).add 6) = some (.slice x18.p x18.n x18.c) ∧ (
  iteB (decide (i < (x18.n : Int))) (
  iteB (decide (i < (5 : Int))) (
  ∃ x19 : Sl, rd H27 ((⟨H.size, 0, none⟩ : Addr).add 6) = some (.slice x19.p x19.n x19.c) ∧ (
  0 ≤ i ∧ i < (x19.n : Int) ∧ (unSome x19.p (fun a =>
  ∃ x20 : Int, rd H27 (a.add (i.toNat * 1)) = some (.int .u32 x20) ∧ (
  letH (H27.push (.cells #[.int .u32 (0 : Int)] t_api_IntLink (0, 0))) (fun H28 : Heap =>
  okRow H28 (⟨H27.size, 0, none⟩ : Addr) 1 ∧ (
  letH (wrs H28 (⟨H27.size, 0, none⟩ : Addr) [.int .u32 x20]) (fun H29 : Heap =>
  ∃ J_3 : Heap → Prop, (
  ∃ x21 : Int, rd H29 (⟨H27.size, 0, none⟩ : Addr) = some (.int .u32 x21) ∧ (
  iteB (x21 == (0 : Int)) (
  iteB ((i.tmod (2 : Int)) == (0 : Int)) (
  okRow H29 (⟨H27.size, 0, none⟩ : Addr) 1 ∧ (
  letH (wrs H29 (⟨H27.size, 0, none⟩ : Addr) [.int .u32 (7680 : Int)]) (fun H30 : Heap =>
  J_3 H30))) (
  J_3 H29)) (
  J_3 H29))) ∧ (∀ H31 : Heap, J_3 H31 → F_gen_Host_k1 H3 I_ M_ i H27 H31))))))))) (
  J_2 H27)) (
  J_2 H27))

def F_gen_Host_r3 (H : Heap) (H3 : Heap) (J_4 : Heap → Prop) (I_1 : Int → Heap → Prop) (M_1 : Int → Heap → Nat) (i2 : Int) (H36 : Heap) : Prop :=
  ∃ x25 : Sl, rd H36 ((⟨H.size, 0, none⟩ : Addr).add 7) = some (.slice x25.p x25.n x25.c) ∧ (
  iteB (decide (i2 < (x25.n : Int))) (
  iteB (decide (i2 < (40 : Int))) (
  ∃ x26 : Sl, rd H36 ((⟨H3.size, 0, none⟩ : Addr).add 6) = some (.slice x26.p x26.n x26.c) ∧ (
  iteB (decide ((x26.n : Int) > (0 : Int))) (
  ∃ x27 : Sl, rd H36 ((⟨H3.size, 0, none⟩ : Addr).add 7) = some (.slice x27.p x27.n x27.c) ∧ (
  ∃ x28 : Sl, rd H36 ((⟨H.size, 0, none⟩ : Addr).add 7) = some (.slice x28.p x28.n x28.c) ∧ (
  0 ≤ i2 ∧ i2 < (x28.n : Int) ∧ (unSome x28.p (fun a1 =>
  ∃ x29 : Int, rd H36 (a1.add (i2.toNat * 3)) = some (.int .i64 x29) ∧ (
  CallsP Tryd.prog n_help_Mod #[.int .i64 x29, .int .i64 (8 : Int)] (fun v9 =>
  ∃ x30 : Int, v9 = .int .i64 x30 ∧ (
  ∃ x31 : Sl, rd H36 ((⟨H.size, 0, none⟩ : Addr).add 7) = some (.slice x31.p x31.n x31.c) ∧ (
  0 ≤ i2 ∧ i2 < (x31.n : Int) ∧ (unSome x31.p (fun a2 =>
  ∃ x32 : Int, rd H36 ((a2.add (i2.toNat * 3)).add 1) = some (.int .i64 x32) ∧ (
  CallsP Tryd.prog n_help_Mod #[.int .i64 x32, .int .i64 (4 : Int)] (fun v10 =>
  ∃ x33 : Int, v10 = .int .i64 x33 ∧ (
  ∃ x34 : Sl, rd H36 ((⟨H.size, 0, none⟩ : Addr).add 7) = some (.slice x34.p x34.n x34.c) ∧ (
  0 ≤ i2 ∧ i2 < (x34.n : Int) ∧ (unSome x34.p (fun a3 =>
  ∃ x35 : Int, rd H36 ((a3.add (i2.toNat * 3)).add 2) = some (.int .i64 x35) ∧ (
  ∃ x36 : Sl, rd H36 ((⟨H3.size, 0, none⟩ : Addr).add 6) = some (.slice x36.p x36.n x36.c) ∧ (
  CallsP Tryd.prog n_help_Mod #[.int .i64 x35, .int .i64 (x36.n : Int)] (fun v11 =>
  ∃ x37 : Int, v11 = .int .i64 x37 ∧ (
  letH (H36.push (.cells #[.int .i64 x30, .int .i64 (IntKind.i64.wrap ((1 : Int) + x33)), .int .i64 x37] t_api_Route (0, 0))) (fun H37 : Heap =>
  Keeps H36 H37 [(((⟨H3.size, 0, none⟩ : Addr).add 7), 1)] ∧ (
  runH Tryd.prog (Builtin.append_ #[t_sl_api_Route, t_sl_api_Route] t_sl_api_Route #[.slice x27.p x27.n x27.c, .slice (some (⟨H36.size, 0, none⟩ : Addr)) 1 1]) H37 (fun v12 H38 =>
  ∃ x38 : Sl, v12 = .slice x38.p x38.n x38.c ∧ (
  okRow H38 ((⟨H3.size, 0, none⟩ : Addr).add 7) 1 ∧ (
  letH (wrs H38 ((⟨H3.size, 0, none⟩ : Addr).add 7) [.slice x38.p x38.n x38.c]) (fun H39 : Heap =>
  letV (IntKind.i64.wrap (i2 + (1 : Int))) (fun i3 : Int =>
  I_1 i3 H39 ∧ M_1 i3 H39 < M_1 i2 H36)))))))))))))))))))))))))))) (
  J_4 H36))) (
  J_4 H36)) (
  J_4 H36))

def F_gen_Host_r4 (R : Value → Heap → Prop) (H1 : Heap) (H3 : Heap) (I_2 : Int → Heap → Prop) (M_2 : Int → Heap → Nat) (i4 : Int) (H41 : Heap) : Prop :=
  iteB (decide (i4 < (32 : Int))) (
  ∃ x39 : Sl, rd H41 ((⟨H3.size, 0, none⟩ : Addr).add 6) = some (.slice x39.p x39.n x39.c) ∧ (
  iteB (decide ((x39.n : Int) > (0 : Int))) (
  ∃ x40 : Sl, rd H41 ((⟨H3.size, 0, none⟩ : Addr).add 7) = some (.slice x40.p x40.n x40.c) ∧ (
  ∃ x41 : Sl, rd H41 ((⟨H3.size, 0, none⟩ : Addr).add 6) = some (.slice x41.p x41.n x41.c) ∧ (
  (x41.n : Int) ≠ 0 ∧ (
  letH (H41.push (.cells #[.int .i64 (i4.tmod (8 : Int)), .int .i64 (IntKind.i64.wrap ((1 : Int) + (IntKind.i64.wrap (i4.tdiv (8 : Int))))), .int .i64 (i4.tmod (x41.n : Int))] t_api_Route (0, 0))) (fun H42 : Heap =>
  Keeps H41 H42 [(((⟨H3.size, 0, none⟩ : Addr).add 7), 1)] ∧ (
  runH Tryd.prog (Builtin.append_ #[t_sl_api_Route, t_sl_api_Route] t_sl_api_Route #[.slice x40.p x40.n x40.c, .slice (some (⟨H41.size, 0, none⟩ : Addr)) 1 1]) H42 (fun v13 H43 =>
  ∃ x42 : Sl, v13 = .slice x42.p x42.n x42.c ∧ (
  okRow H43 ((⟨H3.size, 0, none⟩ : Addr).add 7) 1 ∧ (
  letH (wrs H43 ((⟨H3.size, 0, none⟩ : Addr).add 7) [.slice x42.p x42.n x42.c]) (fun H44 : Heap =>
  letV (IntKind.i64.wrap (i4 + (1 : Int))) (fun i5 : Int =>
  I_2 i5 H44 ∧ M_2 i5 H44 < M_2 i4 H41))))))))))) (
  ∃ x43 : Int, rd H41 (⟨H3.size, 0, none⟩ : Addr) = some (.int .i64 x43) ∧ ∃ x44 : Sl, rd H41 ((⟨H3.size, 0, none⟩ : Addr).add 1) = some (.slice x44.p x44.n x44.c) ∧ ∃ x45 : Sl, rd H41 ((⟨H3.size, 0, none⟩ : Addr).add 2) = some (.slice x45.p x45.n x45.c) ∧ ∃ x46 : Sl, rd H41 ((⟨H3.size, 0, none⟩ : Addr).add 3) = some (.slice x46.p x46.n x46.c) ∧ ∃ x47 : Sl, rd H41 ((⟨H3.size, 0, none⟩ : Addr).add 4) = some (.slice x47.p x47.n x47.c) ∧ ∃ x48 : Sl, rd H41 ((⟨H3.size, 0, none⟩ : Addr).add 5) = some (.slice x48.p x48.n x48.c) ∧ ∃ x49 : Sl, rd H41 ((⟨H3.size, 0, none⟩ : Addr).add 6) = some (.slice x49.p x49.n x49.c) ∧ ∃ x50 : Sl, rd H41 ((⟨H3.size, 0, none⟩ : Addr).add 7) = some (.slice x50.p x50.n x50.c) ∧ (
  okRow H41 (⟨H1.size, 0, none⟩ : Addr) 8 ∧ (
  letH (wrs H41 (⟨H1.size, 0, none⟩ : Addr) [.int .i64 x43, .slice x44.p x44.n x44.c, .slice x45.p x45.n x45.c, .slice x46.p x46.n x46.c, .slice x47.p x47.n x47.c, .slice x48.p x48.n x48.c, .slice x49.p x49.n x49.c, .slice x50.p x50.n x50.c]) (fun H45 : Heap =>
  ∃ r : Int, rd H45 (⟨H1.size, 0, none⟩ : Addr) = some (.int .i64 r) ∧ ∃ r1 : Sl, rd H45 ((⟨H1.size, 0, none⟩ : Addr).add 1) = some (.slice r1.p r1.n r1.c) ∧ ∃ r2 : Sl, rd H45 ((⟨H1.size, 0, none⟩ : Addr).add 2) = some (.slice r2.p r2.n r2.c) ∧ ∃ r3 : Sl, rd H45 ((⟨H1.size, 0, none⟩ : Addr).add 3) = some (.slice r3.p r3.n r3.c) ∧ ∃ r4 : Sl, rd H45 ((⟨H1.size, 0, none⟩ : Addr).add 4) = some (.slice r4.p r4.n r4.c) ∧ ∃ r5 : Sl, rd H45 ((⟨H1.size, 0, none⟩ : Addr).add 5) = some (.slice r5.p r5.n r5.c) ∧ ∃ r6 : Sl, rd H45 ((⟨H1.size, 0, none⟩ : Addr).add 6) = some (.slice r6.p r6.n r6.c) ∧ ∃ r7 : Sl, rd H45 ((⟨H1.size, 0, none⟩ : Addr).add 7) = some (.slice r7.p r7.n r7.c) ∧ (
  R (.agg #[.int .i64 r, .slice r1.p r1.n r1.c, .slice r2.p r2.n r2.c, .slice r3.p r3.n r3.c, .slice r4.p r4.n r4.c, .slice r5.p r5.n r5.c, .slice r6.p r6.n r6.c, .slice r7.p r7.n r7.c]) H45))))))) (
  ∃ x51 : Int, rd H41 (⟨H3.size, 0, none⟩ : Addr) = some (.int .i64 x51) ∧ ∃ x52 : Sl, rd H41 ((⟨H3.size, 0, none⟩ : Addr).add 1) = some (.slice x52.p x52.n x52.c) ∧ ∃ x53 : Sl, rd H41 ((⟨H3.size, 0, none⟩ : Addr).add 2) = some (.slice x53.p x53.n x53.c) ∧ ∃ x54 : Sl, rd H41 ((⟨H3.size, 0, none⟩ : Addr).add 3) = some (.slice x54.p x54.n x54.c) ∧ ∃ x55 : Sl, rd H41 ((⟨H3.size, 0, none⟩ : Addr).add 4) = some (.slice x55.p x55.n x55.c) ∧ ∃ x56 : Sl, rd H41 ((⟨H3.size, 0, none⟩ : Addr).add 5) = some (.slice x56.p x56.n x56.c) ∧ ∃ x57 : Sl, rd H41 ((⟨H3.size, 0, none⟩ : Addr).add 6) = some (.slice x57.p x57.n x57.c) ∧ ∃ x58 : Sl, rd H41 ((⟨H3.size, 0, none⟩ : Addr).add 7) = some (.slice x58.p x58.n x58.c) ∧ (
  okRow H41 (⟨H1.size, 0, none⟩ : Addr) 8 ∧ (
  letH (wrs H41 (⟨H1.size, 0, none⟩ : Addr) [.int .i64 x51, .slice x52.p x52.n x52.c, .slice x53.p x53.n x53.c, .slice x54.p x54.n x54.c, .slice x55.p x55.n x55.c, .slice x56.p x56.n x56.c, .slice x57.p x57.n x57.c, .slice x58.p x58.n x58.c]) (fun H46 : Heap =>
  ∃ r8 : Int, rd H46 (⟨H1.size, 0, none⟩ : Addr) = some (.int .i64 r8) ∧ ∃ r9 : Sl, rd H46 ((⟨H1.size, 0, none⟩ : Addr).add 1) = some (.slice r9.p r9.n r9.c) ∧ ∃ r10 : Sl, rd H46 ((⟨H1.size, 0, none⟩ : Addr).add 2) = some (.slice r10.p r10.n r10.c) ∧ ∃ r11 : Sl, rd H46 ((⟨H1.size, 0, none⟩ : Addr).add 3) = some (.slice r11.p r11.n r11.c) ∧ ∃ r12 : Sl, rd H46 ((⟨H1.size, 0, none⟩ : Addr).add 4) = some (.slice r12.p r12.n r12.c) ∧ ∃ r13 : Sl, rd H46 ((⟨H1.size, 0, none⟩ : Addr).add 5) = some (.slice r13.p r13.n r13.c) ∧ ∃ r14 : Sl, rd H46 ((⟨H1.size, 0, none⟩ : Addr).add 6) = some (.slice r14.p r14.n r14.c) ∧ ∃ r15 : Sl, rd H46 ((⟨H1.size, 0, none⟩ : Addr).add 7) = some (.slice r15.p r15.n r15.c) ∧ (
  R (.agg #[.int .i64 r8, .slice r9.p r9.n r9.c, .slice r10.p r10.n r10.c, .slice r11.p r11.n r11.c, .slice r12.p r12.n r12.c, .slice r13.p r13.n r13.c, .slice r14.p r14.n r14.c, .slice r15.p r15.n r15.c]) H46)))))

def F_gen_Host_k5 (R : Value → Heap → Prop) (H1 : Heap) (H3 : Heap) (H40 : Heap) : Prop :=
  ∃ I_2 : Int → Heap → Prop, ∃ M_2 : Int → Heap → Nat, I_2 (0 : Int) H40 ∧ (∀ i4 : Int, ∀ H41 : Heap, I_2 i4 H41 → F_gen_Host_r4 R H1 H3 I_2 M_2 i4 H41)

def F_gen_Host_k6 (R : Value → Heap → Prop) (H : Heap) (H1 : Heap) (H3 : Heap) (H35 : Heap) : Prop :=
  ∃ J_4 : Heap → Prop, (
  ∃ I_1 : Int → Heap → Prop, ∃ M_1 : Int → Heap → Nat, I_1 (0 : Int) H35 ∧ (∀ i2 : Int, ∀ H36 : Heap, I_1 i2 H36 → F_gen_Host_r3 H H3 J_4 I_1 M_1 i2 H36)) ∧ (∀ H40 : Heap, J_4 H40 → F_gen_Host_k5 R H1 H3 H40)

def F_gen_Host_k7 (R : Value → Heap → Prop) (H : Heap) (H1 : Heap) (H3 : Heap) (H26 : Heap) : Prop :=
  ∃ J_2 : Heap → Prop, (
  ∃ I_ : Int → Heap → Prop, ∃ M_ : Int → Heap → Nat, I_ (0 : Int) H26 ∧ (∀ i : Int, ∀ H27 : Heap, I_ i H27 → F_gen_Host_r2 H H3 J_2 I_ M_ i H27)) ∧ (∀ H35 : Heap, J_2 H35 → F_gen_Host_k6 R H H1 H3 H35)

def F_gen_Host_k8 (R : Value → Heap → Prop) (H : Heap) (H1 : Heap) (H3 : Heap) (H8 : Heap) : Prop :=
  ∃ x4 : Sl, rd H8 ((⟨H.size, 0, none⟩ : Addr).add 1) = some (.slice x4.p x4.n x4.c) ∧ (
  CallsH Tryd.prog n_gen_ranges #[.slice x4.p x4.n x4.c, .int .u64 (4096 : Int), .int .u64 (65536 : Int), .int .u64 (1024 : Int), .int .i64 (3 : Int)] H8 (fun v2 H9 =>
  ∃ x5 : Sl, v2 = .slice x5.p x5.n x5.c ∧ (
  okRow H9 ((⟨H3.size, 0, none⟩ : Addr).add 1) 1 ∧ (
  letH (wrs H9 ((⟨H3.size, 0, none⟩ : Addr).add 1) [.slice x5.p x5.n x5.c]) (fun H10 : Heap =>
  ∃ x6 : Sl, rd H10 ((⟨H.size, 0, none⟩ : Addr).add 2) = some (.slice x6.p x6.n x6.c) ∧ (
  CallsH Tryd.prog n_gen_ranges #[.slice x6.p x6.n x6.c, .int .u64 (16777216 : Int), .int .u64 (4294967296 : Int), .int .u64 (262144 : Int), .int .i64 (3 : Int)] H10 (fun v3 H11 =>
  ∃ x7 : Sl, v3 = .slice x7.p x7.n x7.c ∧ (
  okRow H11 ((⟨H3.size, 0, none⟩ : Addr).add 2) 1 ∧ (
  letH (wrs H11 ((⟨H3.size, 0, none⟩ : Addr).add 2) [.slice x7.p x7.n x7.c]) (fun H12 : Heap =>
  ∃ x8 : Sl, rd H12 ((⟨H.size, 0, none⟩ : Addr).add 3) = some (.slice x8.p x8.n x8.c) ∧ (
  CallsH Tryd.prog n_gen_ranges #[.slice x8.p x8.n x8.c, .int .u64 (4294967296 : Int), .int .u64 (1099511627776 : Int), .int .u64 (268435456 : Int), .int .i64 (2 : Int)] H12 (fun v4 H13 =>
  ∃ x9 : Sl, v4 = .slice x9.p x9.n x9.c ∧ (
  okRow H13 ((⟨H3.size, 0, none⟩ : Addr).add 3) 1 ∧ (
  letH (wrs H13 ((⟨H3.size, 0, none⟩ : Addr).add 3) [.slice x9.p x9.n x9.c]) (fun H14 : Heap =>
  ∃ x10 : Sl, rd H14 ((⟨H.size, 0, none⟩ : Addr).add 4) = some (.slice x10.p x10.n x10.c) ∧ (
  CallsH Tryd.prog n_gen_ranges #[.slice x10.p x10.n x10.c, .int .u64 (0 : Int), .int .u64 (65536 : Int), .int .u64 (256 : Int), .int .i64 (2 : Int)] H14 (fun v5 H15 =>
  ∃ x11 : Sl, v5 = .slice x11.p x11.n x11.c ∧ (
  okRow H15 ((⟨H3.size, 0, none⟩ : Addr).add 4) 1 ∧ (
  letH (wrs H15 ((⟨H3.size, 0, none⟩ : Addr).add 4) [.slice x11.p x11.n x11.c]) (fun H16 : Heap =>
  ∃ x12 : Sl, rd H16 ((⟨H.size, 0, none⟩ : Addr).add 5) = some (.slice x12.p x12.n x12.c) ∧ (
  CallsH Tryd.prog n_gen_ranges #[.slice x12.p x12.n x12.c, .int .u64 (0 : Int), .int .u64 (4294967296 : Int), .int .u64 (65536 : Int), .int .i64 (2 : Int)] H16 (fun v6 H17 =>
  ∃ x13 : Sl, v6 = .slice x13.p x13.n x13.c ∧ (
  okRow H17 ((⟨H3.size, 0, none⟩ : Addr).add 5) 1 ∧ (
  letH (wrs H17 ((⟨H3.size, 0, none⟩ : Addr).add 5) [.slice x13.p x13.n x13.c]) (fun H18 : Heap =>
  ∃ J_1 : Heap → Prop, (
  ∃ x14 : Int, rd H18 (⟨H.size, 0, none⟩ : Addr) = some (.int .i64 x14) ∧ (
  CallsH Tryd.prog n_help_Mod #[.int .i64 x14, .int .i64 (3 : Int)] H18 (fun v7 H19 =>
  ∃ x15 : Int, v7 = .int .i64 x15 ∧ (
  iteB (decide (x15 > (0 : Int))) (
  ∃ x16 : Sl, rd H19 ((⟨H3.size, 0, none⟩ : Addr).add 4) = some (.slice x16.p x16.n x16.c) ∧ (
  0 ≤ (0 : Int) ∧ (0 : Int) ≤ (x16.c : Int) ∧ (
  letH (H19.push (.cells #[.int .u64 (4096 : Int), .int .u64 (61440 : Int)] t_api_Range (0, 0))) (fun H20 : Heap =>
  Keeps H19 H20 [(((⟨H3.size, 0, none⟩ : Addr).add 4), 1)] ∧ (
  okRow H20 ((⟨H3.size, 0, none⟩ : Addr).add 1) 1 ∧ (
  letH (wrs H20 ((⟨H3.size, 0, none⟩ : Addr).add 1) [.slice (some (⟨H19.size, 0, none⟩ : Addr)) 1 1]) (fun H21 : Heap =>
  okRow H21 ((⟨H3.size, 0, none⟩ : Addr).add 4) 1 ∧ (
  letH (wrs H21 ((⟨H3.size, 0, none⟩ : Addr).add 4) [.slice (slP x16.p x16.c 0 2) ((0 : Int).toNat - 0) (x16.c - 0)]) (fun H22 : Heap =>
  ∃ x17 : Sl, rd H22 ((⟨H3.size, 0, none⟩ : Addr).add 5) = some (.slice x17.p x17.n x17.c) ∧ (
  0 ≤ (0 : Int) ∧ (0 : Int) ≤ (x17.c : Int) ∧ (
  letH (H22.push (.cells #[.int .u64 (268435456 : Int), .int .u64 (4026531840 : Int)] t_api_Range (0, 0))) (fun H23 : Heap =>
  Keeps H22 H23 [(((⟨H3.size, 0, none⟩ : Addr).add 5), 1)] ∧ (
  okRow H23 ((⟨H3.size, 0, none⟩ : Addr).add 2) 1 ∧ (
  letH (wrs H23 ((⟨H3.size, 0, none⟩ : Addr).add 2) [.slice (some (⟨H22.size, 0, none⟩ : Addr)) 1 1]) (fun H24 : Heap =>
  okRow H24 ((⟨H3.size, 0, none⟩ : Addr).add 5) 1 ∧ (
  letH (wrs H24 ((⟨H3.size, 0, none⟩ : Addr).add 5) [.slice (slP x17.p x17.c 0 2) ((0 : Int).toNat - 0) (x17.c - 0)]) (fun H25 : Heap =>
  J_1 H25))))))))))))))))) (
  J_1 H19))))) ∧ (∀ H26 : Heap, J_1 H26 → F_gen_Host_k7 R H H1 H3 H26))))))))))))))))))))))))))

def F_gen_Host (R : Value → Heap → Prop) (h_0 : Int) (h_1 : Sl) (h_2 : Sl) (h_3 : Sl) (h_4 : Sl) (h_5 : Sl) (h_6 : Sl) (h_7 : Sl) (H : Heap) : Prop :=
  letH (H.push (.cells #[.int .i64 h_0, .slice h_1.p h_1.n h_1.c, .slice h_2.p h_2.n h_2.c, .slice h_3.p h_3.n h_3.c, .slice h_4.p h_4.n h_4.c, .slice h_5.p h_5.n h_5.c, .slice h_6.p h_6.n h_6.c, .slice h_7.p h_7.n h_7.c] t_api_Host (0, 0))) (fun H1 : Heap =>
  letH (H1.push (.cells #[.int .i64 (0 : Int), .slice none 0 0, .slice none 0 0, .slice none 0 0, .slice none 0 0, .slice none 0 0, .slice none 0 0, .slice none 0 0] t_api_Host (0, 0))) (fun H2 : Heap =>
  ∃ x : Int, rd H2 (⟨H.size, 0, none⟩ : Addr) = some (.int .i64 x) ∧ (
  CallsH Tryd.prog n_help_Mod #[.int .i64 x, .int .i64 (40 : Int)] H2 (fun v H3 =>
  ∃ x1 : Int, v = .int .i64 x1 ∧ (
  letH (H3.push (.cells #[.int .i64 (0 : Int), .slice none 0 0, .slice none 0 0, .slice none 0 0, .slice none 0 0, .slice none 0 0, .slice none 0 0, .slice none 0 0] t_api_Host (0, 0))) (fun H4 : Heap =>
  okRow H4 (⟨H3.size, 0, none⟩ : Addr) 8 ∧ (
  letH (wrs H4 (⟨H3.size, 0, none⟩ : Addr) [.int .i64 (IntKind.i64.wrap ((1 : Int) + x1)), .slice none 0 0, .slice none 0 0, .slice none 0 0, .slice none 0 0, .slice none 0 0, .slice none 0 0, .slice none 0 0]) (fun H5 : Heap =>
  ∃ J_ : Heap → Prop, (
  ∃ x2 : Int, rd H5 (⟨H.size, 0, none⟩ : Addr) = some (.int .i64 x2) ∧ (
  CallsH Tryd.prog n_help_Mod #[.int .i64 x2, .int .i64 (5 : Int)] H5 (fun v1 H6 =>
  ∃ x3 : Int, v1 = .int .i64 x3 ∧ (
  iteB (decide (x3 > (0 : Int))) (
  okRow H6 (⟨H3.size, 0, none⟩ : Addr) 1 ∧ (
  letH (wrs H6 (⟨H3.size, 0, none⟩ : Addr) [.int .i64 (256 : Int)]) (fun H7 : Heap =>
  J_ H7))) (
  J_ H6))))) ∧ (∀ H8 : Heap, J_ H8 → F_gen_Host_k8 R H H1 H3 H8)))))))))

theorem F_gen_Host_eq (R : Value → Heap → Prop) (h_0 : Int) (h_1 : Sl) (h_2 : Sl) (h_3 : Sl) (h_4 : Sl) (h_5 : Sl) (h_6 : Sl) (h_7 : Sl) (H : Heap) : wpF Tryd.prog Tryd.f14 [(4, .int .i64 0), (6, .int .i64 0), (7, .int .i64 0)] [(4, [], [1, 2, 3]), (12, [], [1, 2, 3]), (19, [], [1, 2, 3]), (18, [], [1, 2, 3, 4, 5]), (23, [], [2, 3])] [(13, [4], [1, 2, 3]), (20, [6], [1, 2, 3]), (24, [7], [2, 3])] [6] [.agg #[.int .i64 h_0, .slice h_1.p h_1.n h_1.c, .slice h_2.p h_2.n h_2.c, .slice h_3.p h_3.n h_3.c, .slice h_4.p h_4.n h_4.c, .slice h_5.p h_5.n h_5.c, .slice h_6.p h_6.n h_6.c, .slice h_7.p h_7.n h_7.c]] H R = F_gen_Host R h_0 h_1 h_2 h_3 h_4 h_5 h_6 h_7 H := by kernel_rfl

theorem F_gen_Host_ok {R : Value → Heap → Prop} (h_0 : Int) (h_1 : Sl) (h_2 : Sl) (h_3 : Sl) (h_4 : Sl) (h_5 : Sl) (h_6 : Sl) (h_7 : Sl) {H : Heap} (h : F_gen_Host R h_0 h_1 h_2 h_3 h_4 h_5 h_6 h_7 H) : CallsH Tryd.prog n_gen_Host #[.agg #[.int .i64 h_0, .slice h_1.p h_1.n h_1.c, .slice h_2.p h_2.n h_2.c, .slice h_3.p h_3.n h_3.c, .slice h_4.p h_4.n h_4.c, .slice h_5.p h_5.n h_5.c, .slice h_6.p h_6.n h_6.c, .slice h_7.p h_7.n h_7.c]] H R :=
  wpF_ok Tryd.func14 (F_gen_Host_eq R h_0 h_1 h_2 h_3 h_4 h_5 h_6 h_7 H) h

/-! ### 15: platformfw/platformfwref21.LinkOf -/

def F_ref21_LinkOf_k1 (R : Value → Heap → Prop) (H : Heap) (I_ : Int → Heap → Prop) (M_ : Int → Heap → Nat) (k : Int) (H4 : Heap) (x17 : Bool) (H5 : Heap) : Prop :=
  iteB x17 (
  ∃ x18 : Sl, rd H5 ((⟨H.size, 0, none⟩ : Addr).add 7) = some (.slice x18.p x18.n x18.c) ∧ (
  0 ≤ k ∧ k < (x18.n : Int) ∧ (unSome x18.p (fun a2 =>
  ∃ x19 : Int, rd H5 ((a2.add (k.toNat * 3)).add 2) = some (.int .i64 x19) ∧ (
  R (.tuple #[.int .i64 x19, .bool true]) H5))))) (
  letV (IntKind.i64.wrap (k + (1 : Int))) (fun k1 : Int =>
  I_ k1 H5 ∧ M_ k1 H5 < M_ k H4))

def F_ref21_LinkOf_r2 (R : Value → Heap → Prop) (H : Heap) (x : Int) (x1 : Int) (I_ : Int → Heap → Prop) (M_ : Int → Heap → Nat) (k : Int) (H4 : Heap) : Prop :=
  ∃ x12 : Sl, rd H4 ((⟨H.size, 0, none⟩ : Addr).add 7) = some (.slice x12.p x12.n x12.c) ∧ (
  iteB (decide (k < (x12.n : Int))) (
  ∃ J_ : Bool → Heap → Prop, (
  ∃ x13 : Sl, rd H4 ((⟨H.size, 0, none⟩ : Addr).add 7) = some (.slice x13.p x13.n x13.c) ∧ (
  0 ≤ k ∧ k < (x13.n : Int) ∧ (unSome x13.p (fun a =>
  ∃ x14 : Int, rd H4 (a.add (k.toNat * 3)) = some (.int .i64 x14) ∧ (
  iteB (x14 == x) (
  ∃ x15 : Sl, rd H4 ((⟨H.size, 0, none⟩ : Addr).add 7) = some (.slice x15.p x15.n x15.c) ∧ (
  0 ≤ k ∧ k < (x15.n : Int) ∧ (unSome x15.p (fun a1 =>
  ∃ x16 : Int, rd H4 ((a1.add (k.toNat * 3)).add 1) = some (.int .i64 x16) ∧ (
  J_ (x16 == x1) H4))))) (
  J_ false H4)))))) ∧ (∀ x17 : Bool, ∀ H5 : Heap, J_ x17 H5 → F_ref21_LinkOf_k1 R H I_ M_ k H4 x17 H5)) (
  R (.tuple #[.int .i64 (0 : Int), .bool false]) H4))

def F_ref21_LinkOf (R : Value → Heap → Prop) (l : Sl) (h_0 : Int) (h_1 : Sl) (h_2 : Sl) (h_3 : Sl) (h_4 : Sl) (h_5 : Sl) (h_6 : Sl) (h_7 : Sl) (i : Int) (H : Heap) : Prop :=
  letH (H.push (.cells #[.int .i64 h_0, .slice h_1.p h_1.n h_1.c, .slice h_2.p h_2.n h_2.c, .slice h_3.p h_3.n h_3.c, .slice h_4.p h_4.n h_4.c, .slice h_5.p h_5.n h_5.c, .slice h_6.p h_6.n h_6.c, .slice h_7.p h_7.n h_7.c] t_api_Host (0, 0))) (fun H1 : Heap =>
  CallsH Tryd.prog n_ref21_Swizzle #[.slice l.p l.n l.c, .int .i64 i] H1 (fun v H2 =>
  ∃ x : Int, ∃ x1 : Int, ∃ x2 : Bool, v = .tuple #[.int .i64 x, .int .i64 x1, .bool x2] ∧ (
  iteB (!x2) (
  R (.tuple #[.int .i64 (0 : Int), .bool false]) H2) (
  ∃ x3 : Int, rd H2 (⟨H.size, 0, none⟩ : Addr) = some (.int .i64 x3) ∧ ∃ x4 : Sl, rd H2 ((⟨H.size, 0, none⟩ : Addr).add 1) = some (.slice x4.p x4.n x4.c) ∧ ∃ x5 : Sl, rd H2 ((⟨H.size, 0, none⟩ : Addr).add 2) = some (.slice x5.p x5.n x5.c) ∧ ∃ x6 : Sl, rd H2 ((⟨H.size, 0, none⟩ : Addr).add 3) = some (.slice x6.p x6.n x6.c) ∧ ∃ x7 : Sl, rd H2 ((⟨H.size, 0, none⟩ : Addr).add 4) = some (.slice x7.p x7.n x7.c) ∧ ∃ x8 : Sl, rd H2 ((⟨H.size, 0, none⟩ : Addr).add 5) = some (.slice x8.p x8.n x8.c) ∧ ∃ x9 : Sl, rd H2 ((⟨H.size, 0, none⟩ : Addr).add 6) = some (.slice x9.p x9.n x9.c) ∧ ∃ x10 : Sl, rd H2 ((⟨H.size, 0, none⟩ : Addr).add 7) = some (.slice x10.p x10.n x10.c) ∧ (
  CallsH Tryd.prog n_ref21_ValidHost #[.agg #[.int .i64 x3, .slice x4.p x4.n x4.c, .slice x5.p x5.n x5.c, .slice x6.p x6.n x6.c, .slice x7.p x7.n x7.c, .slice x8.p x8.n x8.c, .slice x9.p x9.n x9.c, .slice x10.p x10.n x10.c]] H2 (fun v1 H3 =>
  ∃ x11 : Bool, v1 = .bool x11 ∧ (
  iteB (!x11) (
  R (.tuple #[.int .i64 (0 : Int), .bool false]) H3) (
  ∃ I_ : Int → Heap → Prop, ∃ M_ : Int → Heap → Nat, I_ (0 : Int) H3 ∧ (∀ k : Int, ∀ H4 : Heap, I_ k H4 → F_ref21_LinkOf_r2 R H x x1 I_ M_ k H4)))))))))

theorem F_ref21_LinkOf_eq (R : Value → Heap → Prop) (l : Sl) (h_0 : Int) (h_1 : Sl) (h_2 : Sl) (h_3 : Sl) (h_4 : Sl) (h_5 : Sl) (h_6 : Sl) (h_7 : Sl) (i : Int) (H : Heap) : wpF Tryd.prog Tryd.f15 [(11, .int .i64 0), (50, .bool false)] [(8, [50], [4, 8, 9, 11])] [(5, [11], [4, 8, 9])] [6] [.slice l.p l.n l.c, .agg #[.int .i64 h_0, .slice h_1.p h_1.n h_1.c, .slice h_2.p h_2.n h_2.c, .slice h_3.p h_3.n h_3.c, .slice h_4.p h_4.n h_4.c, .slice h_5.p h_5.n h_5.c, .slice h_6.p h_6.n h_6.c, .slice h_7.p h_7.n h_7.c], .int .i64 i] H R = F_ref21_LinkOf R l h_0 h_1 h_2 h_3 h_4 h_5 h_6 h_7 i H := by kernel_rfl

theorem F_ref21_LinkOf_ok {R : Value → Heap → Prop} (l : Sl) (h_0 : Int) (h_1 : Sl) (h_2 : Sl) (h_3 : Sl) (h_4 : Sl) (h_5 : Sl) (h_6 : Sl) (h_7 : Sl) (i : Int) {H : Heap} (h : F_ref21_LinkOf R l h_0 h_1 h_2 h_3 h_4 h_5 h_6 h_7 i H) : CallsH Tryd.prog n_ref21_LinkOf #[.slice l.p l.n l.c, .agg #[.int .i64 h_0, .slice h_1.p h_1.n h_1.c, .slice h_2.p h_2.n h_2.c, .slice h_3.p h_3.n h_3.c, .slice h_4.p h_4.n h_4.c, .slice h_5.p h_5.n h_5.c, .slice h_6.p h_6.n h_6.c, .slice h_7.p h_7.n h_7.c], .int .i64 i] H R :=
  wpF_ok Tryd.func15 (F_ref21_LinkOf_eq R l h_0 h_1 h_2 h_3 h_4 h_5 h_6 h_7 i H) h

/-! ### 16: platformfw/interrupts.Swizzle -/

def F_interrupts_Swizzle_k1 (R : Value → Heap → Prop) (l : Sl) (function : Int) (x2 : Bool) (H2 : Heap) : Prop :=
  iteB x2 (
  R (.tuple #[.int .i64 (0 : Int), .int .i64 (0 : Int), .bool false]) H2) (
  CallsH Tryd.prog n_interrupts_swizzle #[.slice l.p l.n l.c, .int .i64 function] H2 (fun v1 H3 =>
  ∃ x3 : Int, ∃ x4 : Int, v1 = .tuple #[.int .i64 x3, .int .i64 x4] ∧ (
  R (.tuple #[.int .i64 x3, .int .i64 x4, .bool true]) H3)))

def F_interrupts_Swizzle (R : Value → Heap → Prop) (l : Sl) (function : Int) (H : Heap) : Prop :=
  ∃ J_ : Bool → Heap → Prop, (
  CallsH Tryd.prog n_enumerate_Valid #[.slice l.p l.n l.c] H (fun v H1 =>
  ∃ x : Bool, v = .bool x ∧ (
  iteB (!x) (
  J_ true H1) (
  iteB (decide (function < (0 : Int))) (
  J_ true H1) (
  iteB (decide (function ≥ (l.n : Int))) (
  J_ true H1) (
  0 ≤ function ∧ function < (l.n : Int) ∧ (unSome l.p (fun a =>
  ∃ x1 : Int, rd H1 ((a.add (function.toNat * 11)).add 8) = some (.int .i64 x1) ∧ (
  J_ (x1 == (0 : Int)) H1))))))))) ∧ (∀ x2 : Bool, ∀ H2 : Heap, J_ x2 H2 → F_interrupts_Swizzle_k1 R l function x2 H2)

theorem F_interrupts_Swizzle_eq (R : Value → Heap → Prop) (l : Sl) (function : Int) (H : Heap) : wpF Tryd.prog Tryd.f16 [(29, .bool false)] [(2, [29], [0, 1])] [] [6] [.slice l.p l.n l.c, .int .i64 function] H R = F_interrupts_Swizzle R l function H := by kernel_rfl

theorem F_interrupts_Swizzle_ok {R : Value → Heap → Prop} (l : Sl) (function : Int) {H : Heap} (h : F_interrupts_Swizzle R l function H) : CallsH Tryd.prog n_interrupts_Swizzle #[.slice l.p l.n l.c, .int .i64 function] H R :=
  wpF_ok Tryd.func16 (F_interrupts_Swizzle_eq R l function H) h

/-! ### 17: platformfw/interrupts.Vectors -/

def F_interrupts_Vectors_r1 (R : Value → Heap → Prop) (H : Heap) (l : Sl) (users : Sl) (x16 : Sl) (H15 : Heap) (I_1 : Int → Heap → Prop) (M_1 : Int → Heap → Nat) (x26 : Int) (H18 : Heap) : Prop :=
  iteB (decide (x26 < (users.n : Int))) (
  0 ≤ x26 ∧ x26 < (users.n : Int) ∧ (unSome users.p (fun a1 =>
  ∃ i : Int, rd H18 (a1.add (x26.toNat * 1)) = some (.int .i64 i) ∧ (
  0 ≤ x26 ∧ x26 < (x16.n : Int) ∧ (unSome x16.p (fun a2 =>
  ∃ x27 : Int, rd H18 (a2.add (x26.toNat * 1)) = some (.int .u64 x27) ∧ (
  0 ≤ i ∧ i < (((l.n : Int).toNat : Nat) : Int) ∧ (okRow H18 ((⟨H15.size, 0, none⟩ : Addr).add (i.toNat * 1)) 1 ∧ (
  letH (wrs H18 ((⟨H15.size, 0, none⟩ : Addr).add (i.toNat * 1)) [.int .i64 (IntKind.i64.wrap x27)]) (fun H19 : Heap =>
  I_1 (IntKind.i64.wrap (x26 + (1 : Int))) H19 ∧ M_1 (IntKind.i64.wrap (x26 + (1 : Int))) H19 < M_1 x26 H18)))))))))) (
  okRow H18 (⟨H.size, 0, none⟩ : Addr) 4 ∧ (
  letH (wrs H18 (⟨H.size, 0, none⟩ : Addr) [.int .i64 (0 : Int), .int .i64 (0 : Int), .int .u64 (0 : Int), .int .u64 (0 : Int)]) (fun H20 : Heap =>
  ∃ r8 : Int, rd H20 (⟨H.size, 0, none⟩ : Addr) = some (.int .i64 r8) ∧ ∃ r9 : Int, rd H20 ((⟨H.size, 0, none⟩ : Addr).add 1) = some (.int .i64 r9) ∧ ∃ r10 : Int, rd H20 ((⟨H.size, 0, none⟩ : Addr).add 2) = some (.int .u64 r10) ∧ ∃ r11 : Int, rd H20 ((⟨H.size, 0, none⟩ : Addr).add 3) = some (.int .u64 r11) ∧ (
  R (.tuple #[.slice (some (⟨H15.size, 0, none⟩ : Addr)) ((l.n : Int).toNat) ((l.n : Int).toNat), .agg #[.int .i64 r8, .int .i64 r9, .int .u64 r10, .int .u64 r11], .int .i64 (0 : Int)]) H20))))

def F_interrupts_Vectors_r2 (R : Value → Heap → Prop) (H : Heap) (l : Sl) (I_ : Sl → Sl → Int → Heap → Prop) (M_ : Sl → Sl → Int → Heap → Nat) (users : Sl) (sizes : Sl) (x1 : Int) (H4 : Heap) : Prop :=
  iteB (decide (x1 < (l.n : Int))) (
  0 ≤ x1 ∧ x1 < (l.n : Int) ∧ (unSome l.p (fun a =>
  ∃ x2 : Int, rd H4 (a.add (x1.toNat * 11)) = some (.int .i64 x2) ∧ ∃ x3 : Int, rd H4 ((a.add (x1.toNat * 11)).add 1) = some (.int .i64 x3) ∧ ∃ x4 : Int, rd H4 ((a.add (x1.toNat * 11)).add 2) = some (.int .i64 x4) ∧ ∃ x5 : Int, rd H4 ((a.add (x1.toNat * 11)).add 3) = some (.int .i64 x5) ∧ ∃ x6 : Bool, rd H4 ((a.add (x1.toNat * 11)).add 4) = some (.bool x6) ∧ ∃ x7 : Bool, rd H4 ((a.add (x1.toNat * 11)).add 5) = some (.bool x7) ∧ ∃ x8 : Bool, rd H4 ((a.add (x1.toNat * 11)).add 6) = some (.bool x8) ∧ ∃ x9 : Int, rd H4 ((a.add (x1.toNat * 11)).add 7) = some (.int .i64 x9) ∧ ∃ x10 : Int, rd H4 ((a.add (x1.toNat * 11)).add 8) = some (.int .i64 x10) ∧ ∃ x11 : Int, rd H4 ((a.add (x1.toNat * 11)).add 9) = some (.int .i64 x11) ∧ ∃ x12 : Sl, rd H4 ((a.add (x1.toNat * 11)).add 10) = some (.slice x12.p x12.n x12.c) ∧ (
  letH (H4.push (.cells #[.int .i64 (0 : Int), .int .i64 (0 : Int), .int .i64 (0 : Int), .int .i64 (0 : Int), .bool false, .bool false, .bool false, .int .i64 (0 : Int), .int .i64 (0 : Int), .int .i64 (0 : Int), .slice none 0 0] t_api_Function (0, 0))) (fun H5 : Heap =>
  okRow H5 (⟨H4.size, 0, none⟩ : Addr) 11 ∧ (
  letH (wrs H5 (⟨H4.size, 0, none⟩ : Addr) [.int .i64 x2, .int .i64 x3, .int .i64 x4, .int .i64 x5, .bool x6, .bool x7, .bool x8, .int .i64 x9, .int .i64 x10, .int .i64 x11, .slice x12.p x12.n x12.c]) (fun H6 : Heap =>
  ∃ x13 : Int, rd H6 ((⟨H4.size, 0, none⟩ : Addr).add 9) = some (.int .i64 x13) ∧ (
  iteB (decide (x13 > (0 : Int))) (
  letH (H6.push (.cells #[.int .i64 x1] t_int (0, 0))) (fun H7 : Heap =>
  runH Tryd.prog (Builtin.append_ #[t_sl_int, t_sl_int] t_sl_int #[.slice users.p users.n users.c, .slice (some (⟨H6.size, 0, none⟩ : Addr)) 1 1]) H7 (fun v1 H8 =>
  ∃ users1 : Sl, v1 = .slice users1.p users1.n users1.c ∧ (
  ∃ x14 : Int, rd H8 ((⟨H4.size, 0, none⟩ : Addr).add 9) = some (.int .i64 x14) ∧ (
  CallsH Tryd.prog n_math_bits_Len #[.int .u64 (IntKind.u64.wrap x14)] H8 (fun v2 H9 =>
  ∃ x15 : Int, v2 = .int .i64 x15 ∧ (
  letH (H9.push (.cells #[.int .i64 (IntKind.i64.wrap (x15 - (1 : Int)))] t_int (0, 0))) (fun H10 : Heap =>
  runH Tryd.prog (Builtin.append_ #[t_sl_int, t_sl_int] t_sl_int #[.slice sizes.p sizes.n sizes.c, .slice (some (⟨H9.size, 0, none⟩ : Addr)) 1 1]) H10 (fun v3 H11 =>
  ∃ sizes1 : Sl, v3 = .slice sizes1.p sizes1.n sizes1.c ∧ (
  I_ users1 sizes1 (IntKind.i64.wrap (x1 + (1 : Int))) H11 ∧ M_ users1 sizes1 (IntKind.i64.wrap (x1 + (1 : Int))) H11 < M_ users sizes x1 H4)))))))))) (
  I_ users sizes (IntKind.i64.wrap (x1 + (1 : Int))) H6 ∧ M_ users sizes (IntKind.i64.wrap (x1 + (1 : Int))) H6 < M_ users sizes x1 H4))))))))) (
  letH (H4.push (.cells #[.int .u64 (32 : Int), .int .u64 (208 : Int)] t_api_Range (0, 0))) (fun H12 : Heap =>
  CallsH Tryd.prog n_allocate_Place #[.slice (some (⟨H4.size, 0, none⟩ : Addr)) 1 1, .slice sizes.p sizes.n sizes.c] H12 (fun v4 H13 =>
  ∃ x16 : Sl, ∃ x17 : Int, ∃ x18 : Int, ∃ x19 : Int, ∃ x20 : Int, ∃ x21 : Int, v4 = .tuple #[.slice x16.p x16.n x16.c, .agg #[.int .i64 x17, .int .i64 x18, .int .u64 x19, .int .u64 x20], .int .i64 x21] ∧ (
  letH (H13.push (.cells #[.int .i64 (0 : Int), .int .i64 (0 : Int), .int .u64 (0 : Int), .int .u64 (0 : Int)] t_api_Certificate (0, 0))) (fun H14 : Heap =>
  okRow H14 (⟨H13.size, 0, none⟩ : Addr) 4 ∧ (
  letH (wrs H14 (⟨H13.size, 0, none⟩ : Addr) [.int .i64 x17, .int .i64 x18, .int .u64 x19, .int .u64 x20]) (fun H15 : Heap =>
  iteB (x21 != (0 : Int)) (
  ∃ x22 : Int, rd H15 (⟨H13.size, 0, none⟩ : Addr) = some (.int .i64 x22) ∧ ∃ x23 : Int, rd H15 ((⟨H13.size, 0, none⟩ : Addr).add 1) = some (.int .i64 x23) ∧ ∃ x24 : Int, rd H15 ((⟨H13.size, 0, none⟩ : Addr).add 2) = some (.int .u64 x24) ∧ ∃ x25 : Int, rd H15 ((⟨H13.size, 0, none⟩ : Addr).add 3) = some (.int .u64 x25) ∧ (
  okRow H15 (⟨H.size, 0, none⟩ : Addr) 4 ∧ (
  letH (wrs H15 (⟨H.size, 0, none⟩ : Addr) [.int .i64 x22, .int .i64 x23, .int .u64 x24, .int .u64 x25]) (fun H16 : Heap =>
  ∃ r4 : Int, rd H16 (⟨H.size, 0, none⟩ : Addr) = some (.int .i64 r4) ∧ ∃ r5 : Int, rd H16 ((⟨H.size, 0, none⟩ : Addr).add 1) = some (.int .i64 r5) ∧ ∃ r6 : Int, rd H16 ((⟨H.size, 0, none⟩ : Addr).add 2) = some (.int .u64 r6) ∧ ∃ r7 : Int, rd H16 ((⟨H.size, 0, none⟩ : Addr).add 3) = some (.int .u64 r7) ∧ (
  R (.tuple #[.slice none 0 0, .agg #[.int .i64 r4, .int .i64 r5, .int .u64 r6, .int .u64 r7], .int .i64 x21]) H16))))) (
  0 ≤ (l.n : Int) ∧ (l.n : Int) ≤ (l.n : Int) ∧ (l.n : Int) * ((8 : Nat) : Int) ≤ 281474976710656 ∧ (
  letH (H15.push (.cells (zeroRow (.int .i64 (0 : Int)) (l.n : Int).toNat) t_int (0, 0))) (fun H17 : Heap =>
  ∃ I_1 : Int → Heap → Prop, ∃ M_1 : Int → Heap → Nat, I_1 (0 : Int) H17 ∧ (∀ x26 : Int, ∀ H18 : Heap, I_1 x26 H18 → F_interrupts_Vectors_r1 R H l users x16 H15 I_1 M_1 x26 H18)))))))))))

def F_interrupts_Vectors (R : Value → Heap → Prop) (l : Sl) (H : Heap) : Prop :=
  letH (H.push (.cells #[.int .i64 (0 : Int), .int .i64 (0 : Int), .int .u64 (0 : Int), .int .u64 (0 : Int)] t_api_Certificate (0, 0))) (fun H1 : Heap =>
  CallsH Tryd.prog n_enumerate_Valid #[.slice l.p l.n l.c] H1 (fun v H2 =>
  ∃ x : Bool, v = .bool x ∧ (
  iteB (!x) (
  okRow H2 (⟨H.size, 0, none⟩ : Addr) 4 ∧ (
  letH (wrs H2 (⟨H.size, 0, none⟩ : Addr) [.int .i64 (0 : Int), .int .i64 (0 : Int), .int .u64 (0 : Int), .int .u64 (0 : Int)]) (fun H3 : Heap =>
  ∃ r : Int, rd H3 (⟨H.size, 0, none⟩ : Addr) = some (.int .i64 r) ∧ ∃ r1 : Int, rd H3 ((⟨H.size, 0, none⟩ : Addr).add 1) = some (.int .i64 r1) ∧ ∃ r2 : Int, rd H3 ((⟨H.size, 0, none⟩ : Addr).add 2) = some (.int .u64 r2) ∧ ∃ r3 : Int, rd H3 ((⟨H.size, 0, none⟩ : Addr).add 3) = some (.int .u64 r3) ∧ (
  R (.tuple #[.slice none 0 0, .agg #[.int .i64 r, .int .i64 r1, .int .u64 r2, .int .u64 r3], .int .i64 (1 : Int)]) H3)))) (
  ∃ I_ : Sl → Sl → Int → Heap → Prop, ∃ M_ : Sl → Sl → Int → Heap → Nat, I_ (Sl.mk none 0 0) (Sl.mk none 0 0) (0 : Int) H2 ∧ (∀ users : Sl, ∀ sizes : Sl, ∀ x1 : Int, ∀ H4 : Heap, I_ users sizes x1 H4 → F_interrupts_Vectors_r2 R H l I_ M_ users sizes x1 H4)))))

theorem F_interrupts_Vectors_eq (R : Value → Heap → Prop) (l : Sl) (H : Heap) : wpF Tryd.prog Tryd.f17 [(5, .slice none 0 0), (6, .slice none 0 0), (22, .int .i64 0), (61, .int .i64 0)] [] [(5, [5, 6, 22], [0, 3, 20, 21]), (17, [61], [3, 10, 13, 59, 60])] [6] [.slice l.p l.n l.c] H R = F_interrupts_Vectors R l H := by kernel_rfl

theorem F_interrupts_Vectors_ok {R : Value → Heap → Prop} (l : Sl) {H : Heap} (h : F_interrupts_Vectors R l H) : CallsH Tryd.prog n_interrupts_Vectors #[.slice l.p l.n l.c] H R :=
  wpF_ok Tryd.func17 (F_interrupts_Vectors_eq R l H) h

/-! ### 18: platformfw/enumerate.Valid -/

def F_enumerate_Valid_k1 (R : Value → Heap → Prop) (H : Heap) (I_ : Int → Heap → Prop) (M_ : Int → Heap → Nat) (x : Int) (H2 : Heap) (H6 : Heap) : Prop :=
  ∃ x29 : Int, rd H6 (⟨H2.size, 0, none⟩ : Addr) = some (.int .i64 x29) ∧ (
  ∃ x30 : Int, rd H6 ((⟨H2.size, 0, none⟩ : Addr).add 1) = some (.int .i64 x30) ∧ (
  letH (H6.push (.cells #[.int .i64 (0 : Int), .int .i64 (0 : Int)] t_enumerate_place (0, 0))) (fun H7 : Heap =>
  okRow H7 (⟨H6.size, 0, none⟩ : Addr) 2 ∧ (
  letH (wrs H7 (⟨H6.size, 0, none⟩ : Addr) [.int .i64 x29, .int .i64 x30]) (fun H8 : Heap =>
  ∃ x31 : Int, rd H8 (⟨H6.size, 0, none⟩ : Addr) = some (.int .i64 x31) ∧ ∃ x32 : Int, rd H8 ((⟨H6.size, 0, none⟩ : Addr).add 1) = some (.int .i64 x32) ∧ (
  runH Tryd.prog (Instr.lookup t_map_enumerate_place_bool (.map (some H.size)) (.agg #[.int .i64 x31, .int .i64 x32]) false) H8 (fun v1 H9 =>
  ∃ x33 : Bool, v1 = .bool x33 ∧ (
  iteB x33 (
  R (.bool false) H9) (
  ∃ x34 : Int, rd H9 (⟨H6.size, 0, none⟩ : Addr) = some (.int .i64 x34) ∧ ∃ x35 : Int, rd H9 ((⟨H6.size, 0, none⟩ : Addr).add 1) = some (.int .i64 x35) ∧ (
  runH Tryd.prog (Instr.mapUpdate t_map_enumerate_place_bool (.map (some H.size)) (.agg #[.int .i64 x34, .int .i64 x35]) (.bool true)) H9 (fun _ H10 =>
  I_ (IntKind.i64.wrap (x + (1 : Int))) H10 ∧ M_ (IntKind.i64.wrap (x + (1 : Int))) H10 < M_ x H2)))))))))))

def F_enumerate_Valid_r2 (R : Value → Heap → Prop) (H : Heap) (l : Sl) (I_ : Int → Heap → Prop) (M_ : Int → Heap → Nat) (x : Int) (H2 : Heap) : Prop :=
  iteB (decide (x < (l.n : Int))) (
  0 ≤ x ∧ x < (l.n : Int) ∧ (unSome l.p (fun a =>
  ∃ x1 : Int, rd H2 (a.add (x.toNat * 11)) = some (.int .i64 x1) ∧ ∃ x2 : Int, rd H2 ((a.add (x.toNat * 11)).add 1) = some (.int .i64 x2) ∧ ∃ x3 : Int, rd H2 ((a.add (x.toNat * 11)).add 2) = some (.int .i64 x3) ∧ ∃ x4 : Int, rd H2 ((a.add (x.toNat * 11)).add 3) = some (.int .i64 x4) ∧ ∃ x5 : Bool, rd H2 ((a.add (x.toNat * 11)).add 4) = some (.bool x5) ∧ ∃ x6 : Bool, rd H2 ((a.add (x.toNat * 11)).add 5) = some (.bool x6) ∧ ∃ x7 : Bool, rd H2 ((a.add (x.toNat * 11)).add 6) = some (.bool x7) ∧ ∃ x8 : Int, rd H2 ((a.add (x.toNat * 11)).add 7) = some (.int .i64 x8) ∧ ∃ x9 : Int, rd H2 ((a.add (x.toNat * 11)).add 8) = some (.int .i64 x9) ∧ ∃ x10 : Int, rd H2 ((a.add (x.toNat * 11)).add 9) = some (.int .i64 x10) ∧ ∃ x11 : Sl, rd H2 ((a.add (x.toNat * 11)).add 10) = some (.slice x11.p x11.n x11.c) ∧ (
  letH (H2.push (.cells #[.int .i64 (0 : Int), .int .i64 (0 : Int), .int .i64 (0 : Int), .int .i64 (0 : Int), .bool false, .bool false, .bool false, .int .i64 (0 : Int), .int .i64 (0 : Int), .int .i64 (0 : Int), .slice none 0 0] t_api_Function (0, 0))) (fun H3 : Heap =>
  okRow H3 (⟨H2.size, 0, none⟩ : Addr) 11 ∧ (
  letH (wrs H3 (⟨H2.size, 0, none⟩ : Addr) [.int .i64 x1, .int .i64 x2, .int .i64 x3, .int .i64 x4, .bool x5, .bool x6, .bool x7, .int .i64 x8, .int .i64 x9, .int .i64 x10, .slice x11.p x11.n x11.c]) (fun H4 : Heap =>
  ∃ x12 : Int, rd H4 (⟨H2.size, 0, none⟩ : Addr) = some (.int .i64 x12) ∧ ∃ x13 : Int, rd H4 ((⟨H2.size, 0, none⟩ : Addr).add 1) = some (.int .i64 x13) ∧ ∃ x14 : Int, rd H4 ((⟨H2.size, 0, none⟩ : Addr).add 2) = some (.int .i64 x14) ∧ ∃ x15 : Int, rd H4 ((⟨H2.size, 0, none⟩ : Addr).add 3) = some (.int .i64 x15) ∧ ∃ x16 : Bool, rd H4 ((⟨H2.size, 0, none⟩ : Addr).add 4) = some (.bool x16) ∧ ∃ x17 : Bool, rd H4 ((⟨H2.size, 0, none⟩ : Addr).add 5) = some (.bool x17) ∧ ∃ x18 : Bool, rd H4 ((⟨H2.size, 0, none⟩ : Addr).add 6) = some (.bool x18) ∧ ∃ x19 : Int, rd H4 ((⟨H2.size, 0, none⟩ : Addr).add 7) = some (.int .i64 x19) ∧ ∃ x20 : Int, rd H4 ((⟨H2.size, 0, none⟩ : Addr).add 8) = some (.int .i64 x20) ∧ ∃ x21 : Int, rd H4 ((⟨H2.size, 0, none⟩ : Addr).add 9) = some (.int .i64 x21) ∧ ∃ x22 : Sl, rd H4 ((⟨H2.size, 0, none⟩ : Addr).add 10) = some (.slice x22.p x22.n x22.c) ∧ (
  CallsH Tryd.prog n_pciconf_Valid #[.agg #[.int .i64 x12, .int .i64 x13, .int .i64 x14, .int .i64 x15, .bool x16, .bool x17, .bool x18, .int .i64 x19, .int .i64 x20, .int .i64 x21, .slice x22.p x22.n x22.c]] H4 (fun v H5 =>
  ∃ x23 : Bool, v = .bool x23 ∧ (
  iteB (!x23) (
  R (.bool false) H5) (
  ∃ x24 : Int, rd H5 (⟨H2.size, 0, none⟩ : Addr) = some (.int .i64 x24) ∧ (
  iteB (decide (x24 < (-1 : Int))) (
  R (.bool false) H5) (
  ∃ x25 : Int, rd H5 (⟨H2.size, 0, none⟩ : Addr) = some (.int .i64 x25) ∧ (
  iteB (decide (x25 ≥ x)) (
  R (.bool false) H5) (
  ∃ J_ : Heap → Prop, (
  ∃ x26 : Int, rd H5 (⟨H2.size, 0, none⟩ : Addr) = some (.int .i64 x26) ∧ (
  iteB (decide (x26 ≥ (0 : Int))) (
  ∃ x27 : Int, rd H5 (⟨H2.size, 0, none⟩ : Addr) = some (.int .i64 x27) ∧ (
  0 ≤ x27 ∧ x27 < (l.n : Int) ∧ (unSome l.p (fun a1 =>
  ∃ x28 : Bool, rd H5 ((a1.add (x27.toNat * 11)).add 4) = some (.bool x28) ∧ (
  iteB (!x28) (
  R (.bool false) H5) (
  J_ H5)))))) (
  J_ H5))) ∧ (∀ H6 : Heap, J_ H6 → F_enumerate_Valid_k1 R H I_ M_ x H2 H6)))))))))))))))) (
  R (.bool true) H2)

def F_enumerate_Valid (R : Value → Heap → Prop) (l : Sl) (H : Heap) : Prop :=
  iteB (decide ((l.n : Int) > (64 : Int))) (
  R (.bool false) H) (
  letH (H.push (.map #[] 0)) (fun H1 : Heap =>
  ∃ I_ : Int → Heap → Prop, ∃ M_ : Int → Heap → Nat, I_ (0 : Int) H1 ∧ (∀ x : Int, ∀ H2 : Heap, I_ x H2 → F_enumerate_Valid_r2 R H l I_ M_ x H2)))

theorem F_enumerate_Valid_eq (R : Value → Heap → Prop) (l : Sl) (H : Heap) : wpF Tryd.prog Tryd.f18 [(13, .int .i64 0)] [(11, [], [0, 3, 5, 11, 12, 13])] [(5, [13], [0, 3, 11, 12])] [6] [.slice l.p l.n l.c] H R = F_enumerate_Valid R l H := by kernel_rfl

theorem F_enumerate_Valid_ok {R : Value → Heap → Prop} (l : Sl) {H : Heap} (h : F_enumerate_Valid R l H) : CallsH Tryd.prog n_enumerate_Valid #[.slice l.p l.n l.c] H R :=
  wpF_ok Tryd.func18 (F_enumerate_Valid_eq R l H) h

/-! ### 19: platformfw/allocate.ValidHost -/

def F_allocate_ValidHost_r1 (R : Value → Heap → Prop) (H : Heap) (x19 : Sl) (I_1 : Int → Heap → Prop) (M_1 : Int → Heap → Nat) (x20 : Int) (H9 : Heap) : Prop :=
  iteB (decide (x20 < (x19.n : Int))) (
  0 ≤ x20 ∧ x20 < (x19.n : Int) ∧ (unSome x19.p (fun a =>
  ∃ x21 : Int, rd H9 (a.add (x20.toNat * 3)) = some (.int .i64 x21) ∧ ∃ x22 : Int, rd H9 ((a.add (x20.toNat * 3)).add 1) = some (.int .i64 x22) ∧ ∃ x23 : Int, rd H9 ((a.add (x20.toNat * 3)).add 2) = some (.int .i64 x23) ∧ (
  letH (H9.push (.cells #[.int .i64 (0 : Int), .int .i64 (0 : Int), .int .i64 (0 : Int)] t_api_Route (0, 0))) (fun H10 : Heap =>
  okRow H10 (⟨H9.size, 0, none⟩ : Addr) 3 ∧ (
  letH (wrs H10 (⟨H9.size, 0, none⟩ : Addr) [.int .i64 x21, .int .i64 x22, .int .i64 x23]) (fun H11 : Heap =>
  ∃ x24 : Int, rd H11 (⟨H9.size, 0, none⟩ : Addr) = some (.int .i64 x24) ∧ (
  iteB (decide (x24 < (0 : Int))) (
  R (.bool false) H11) (
  ∃ x25 : Int, rd H11 (⟨H9.size, 0, none⟩ : Addr) = some (.int .i64 x25) ∧ (
  iteB (decide (x25 > (31 : Int))) (
  R (.bool false) H11) (
  ∃ x26 : Int, rd H11 ((⟨H9.size, 0, none⟩ : Addr).add 1) = some (.int .i64 x26) ∧ (
  iteB (decide (x26 < (1 : Int))) (
  R (.bool false) H11) (
  ∃ x27 : Int, rd H11 ((⟨H9.size, 0, none⟩ : Addr).add 1) = some (.int .i64 x27) ∧ (
  iteB (decide (x27 > (4 : Int))) (
  R (.bool false) H11) (
  ∃ x28 : Int, rd H11 ((⟨H9.size, 0, none⟩ : Addr).add 2) = some (.int .i64 x28) ∧ (
  iteB (decide (x28 < (0 : Int))) (
  R (.bool false) H11) (
  ∃ x29 : Int, rd H11 ((⟨H9.size, 0, none⟩ : Addr).add 2) = some (.int .i64 x29) ∧ (
  ∃ x30 : Sl, rd H11 ((⟨H.size, 0, none⟩ : Addr).add 6) = some (.slice x30.p x30.n x30.c) ∧ (
  iteB (decide (x29 ≥ (x30.n : Int))) (
  R (.bool false) H11) (
  I_1 (IntKind.i64.wrap (x20 + (1 : Int))) H11 ∧ M_1 (IntKind.i64.wrap (x20 + (1 : Int))) H11 < M_1 x20 H9)))))))))))))))))))) (
  R (.bool true) H9)

def F_allocate_ValidHost_r2 (R : Value → Heap → Prop) (H : Heap) (H1 : Heap) (I_ : Int → Heap → Prop) (M_ : Int → Heap → Nat) (x7 : Int) (H3 : Heap) : Prop :=
  iteB (decide (x7 < (5 : Int))) (
  0 ≤ x7 ∧ x7 < (5 : Int) ∧ (∃ l : Sl, rd H3 ((⟨H1.size, 0, none⟩ : Addr).add (x7.toNat * 1)) = some (.slice l.p l.n l.c) ∧ (
  iteB (decide ((l.n : Int) > (16 : Int))) (
  R (.bool false) H3) (
  CallsH Tryd.prog n_allocate_validRanges #[.slice l.p l.n l.c] H3 (fun v H4 =>
  ∃ x8 : Bool, v = .bool x8 ∧ (
  iteB (!x8) (
  R (.bool false) H4) (
  I_ (IntKind.i64.wrap (x7 + (1 : Int))) H4 ∧ M_ (IntKind.i64.wrap (x7 + (1 : Int))) H4 < M_ x7 H3))))))) (
  ∃ x9 : Sl, rd H3 ((⟨H.size, 0, none⟩ : Addr).add 1) = some (.slice x9.p x9.n x9.c) ∧ (
  CallsH Tryd.prog n_allocate_within #[.slice x9.p x9.n x9.c, .int .u64 (0 : Int), .int .u64 (65536 : Int)] H3 (fun v1 H5 =>
  ∃ x10 : Bool, v1 = .bool x10 ∧ (
  iteB (!x10) (
  R (.bool false) H5) (
  ∃ x11 : Sl, rd H5 ((⟨H.size, 0, none⟩ : Addr).add 4) = some (.slice x11.p x11.n x11.c) ∧ (
  CallsH Tryd.prog n_allocate_within #[.slice x11.p x11.n x11.c, .int .u64 (0 : Int), .int .u64 (65536 : Int)] H5 (fun v2 H6 =>
  ∃ x12 : Bool, v2 = .bool x12 ∧ (
  iteB (!x12) (
  R (.bool false) H6) (
  ∃ x13 : Sl, rd H6 ((⟨H.size, 0, none⟩ : Addr).add 2) = some (.slice x13.p x13.n x13.c) ∧ (
  CallsH Tryd.prog n_allocate_within #[.slice x13.p x13.n x13.c, .int .u64 (0 : Int), .int .u64 (4294967296 : Int)] H6 (fun v3 H7 =>
  ∃ x14 : Bool, v3 = .bool x14 ∧ (
  iteB (!x14) (
  R (.bool false) H7) (
  ∃ x15 : Sl, rd H7 ((⟨H.size, 0, none⟩ : Addr).add 3) = some (.slice x15.p x15.n x15.c) ∧ (
  CallsH Tryd.prog n_allocate_within #[.slice x15.p x15.n x15.c, .int .u64 (4294967296 : Int), .int .u64 (4503599627370496 : Int)] H7 (fun v4 H8 =>
  ∃ x16 : Bool, v4 = .bool x16 ∧ (
  iteB (!x16) (
  R (.bool false) H8) (
  ∃ x17 : Sl, rd H8 ((⟨H.size, 0, none⟩ : Addr).add 6) = some (.slice x17.p x17.n x17.c) ∧ (
  iteB (decide ((x17.n : Int) > (16 : Int))) (
  R (.bool false) H8) (
  ∃ x18 : Sl, rd H8 ((⟨H.size, 0, none⟩ : Addr).add 7) = some (.slice x18.p x18.n x18.c) ∧ (
  iteB (decide ((x18.n : Int) > (128 : Int))) (
  R (.bool false) H8) (
  ∃ x19 : Sl, rd H8 ((⟨H.size, 0, none⟩ : Addr).add 7) = some (.slice x19.p x19.n x19.c) ∧ (
  ∃ I_1 : Int → Heap → Prop, ∃ M_1 : Int → Heap → Nat, I_1 (0 : Int) H8 ∧ (∀ x20 : Int, ∀ H9 : Heap, I_1 x20 H9 → F_allocate_ValidHost_r1 R H x19 I_1 M_1 x20 H9)))))))))))))))))))))))

def F_allocate_ValidHost (R : Value → Heap → Prop) (h_0 : Int) (h_1 : Sl) (h_2 : Sl) (h_3 : Sl) (h_4 : Sl) (h_5 : Sl) (h_6 : Sl) (h_7 : Sl) (H : Heap) : Prop :=
  letH (H.push (.cells #[.int .i64 h_0, .slice h_1.p h_1.n h_1.c, .slice h_2.p h_2.n h_2.c, .slice h_3.p h_3.n h_3.c, .slice h_4.p h_4.n h_4.c, .slice h_5.p h_5.n h_5.c, .slice h_6.p h_6.n h_6.c, .slice h_7.p h_7.n h_7.c] t_api_Host (0, 0))) (fun H1 : Heap =>
  ∃ x : Int, rd H1 (⟨H.size, 0, none⟩ : Addr) = some (.int .i64 x) ∧ (
  iteB (decide (x < (1 : Int))) (
  R (.bool false) H1) (
  ∃ x1 : Int, rd H1 (⟨H.size, 0, none⟩ : Addr) = some (.int .i64 x1) ∧ (
  iteB (decide (x1 > (256 : Int))) (
  R (.bool false) H1) (
  ∃ x2 : Sl, rd H1 ((⟨H.size, 0, none⟩ : Addr).add 1) = some (.slice x2.p x2.n x2.c) ∧ (
  ∃ x3 : Sl, rd H1 ((⟨H.size, 0, none⟩ : Addr).add 2) = some (.slice x3.p x3.n x3.c) ∧ (
  ∃ x4 : Sl, rd H1 ((⟨H.size, 0, none⟩ : Addr).add 3) = some (.slice x4.p x4.n x4.c) ∧ (
  ∃ x5 : Sl, rd H1 ((⟨H.size, 0, none⟩ : Addr).add 4) = some (.slice x5.p x5.n x5.c) ∧ (
  ∃ x6 : Sl, rd H1 ((⟨H.size, 0, none⟩ : Addr).add 5) = some (.slice x6.p x6.n x6.c) ∧ (
  letH (H1.push (.cells #[.slice x2.p x2.n x2.c, .slice x3.p x3.n x3.c, .slice x4.p x4.n x4.c, .slice x5.p x5.n x5.c, .slice x6.p x6.n x6.c] t_sl_api_Range (0, 0))) (fun H2 : Heap =>
  ∃ I_ : Int → Heap → Prop, ∃ M_ : Int → Heap → Nat, I_ (0 : Int) H2 ∧ (∀ x7 : Int, ∀ H3 : Heap, I_ x7 H3 → F_allocate_ValidHost_r2 R H H1 I_ M_ x7 H3))))))))))))

theorem F_allocate_ValidHost_eq (R : Value → Heap → Prop) (h_0 : Int) (h_1 : Sl) (h_2 : Sl) (h_3 : Sl) (h_4 : Sl) (h_5 : Sl) (h_6 : Sl) (h_7 : Sl) (H : Heap) : wpF Tryd.prog Tryd.f19 [(27, .int .i64 0), (73, .int .i64 0)] [] [(4, [27], [1, 25, 26]), (16, [73], [1, 71, 72])] [6] [.agg #[.int .i64 h_0, .slice h_1.p h_1.n h_1.c, .slice h_2.p h_2.n h_2.c, .slice h_3.p h_3.n h_3.c, .slice h_4.p h_4.n h_4.c, .slice h_5.p h_5.n h_5.c, .slice h_6.p h_6.n h_6.c, .slice h_7.p h_7.n h_7.c]] H R = F_allocate_ValidHost R h_0 h_1 h_2 h_3 h_4 h_5 h_6 h_7 H := by kernel_rfl

theorem F_allocate_ValidHost_ok {R : Value → Heap → Prop} (h_0 : Int) (h_1 : Sl) (h_2 : Sl) (h_3 : Sl) (h_4 : Sl) (h_5 : Sl) (h_6 : Sl) (h_7 : Sl) {H : Heap} (h : F_allocate_ValidHost R h_0 h_1 h_2 h_3 h_4 h_5 h_6 h_7 H) : CallsH Tryd.prog n_allocate_ValidHost #[.agg #[.int .i64 h_0, .slice h_1.p h_1.n h_1.c, .slice h_2.p h_2.n h_2.c, .slice h_3.p h_3.n h_3.c, .slice h_4.p h_4.n h_4.c, .slice h_5.p h_5.n h_5.c, .slice h_6.p h_6.n h_6.c, .slice h_7.p h_7.n h_7.c]] H R :=
  wpF_ok Tryd.func19 (F_allocate_ValidHost_eq R h_0 h_1 h_2 h_3 h_4 h_5 h_6 h_7 H) h

/-! ### 20: platformfw/interrupts.LinkOf -/

def F_interrupts_LinkOf_k1 (R : Value → Heap → Prop) (I_ : Int → Heap → Prop) (M_ : Int → Heap → Nat) (x13 : Int) (H4 : Heap) (x19 : Bool) (H7 : Heap) : Prop :=
  iteB x19 (
  ∃ x20 : Int, rd H7 ((⟨H4.size, 0, none⟩ : Addr).add 2) = some (.int .i64 x20) ∧ (
  R (.tuple #[.int .i64 x20, .bool true]) H7)) (
  I_ (IntKind.i64.wrap (x13 + (1 : Int))) H7 ∧ M_ (IntKind.i64.wrap (x13 + (1 : Int))) H7 < M_ x13 H4)

def F_interrupts_LinkOf_r2 (R : Value → Heap → Prop) (x : Int) (x1 : Int) (x12 : Sl) (I_ : Int → Heap → Prop) (M_ : Int → Heap → Nat) (x13 : Int) (H4 : Heap) : Prop :=
  iteB (decide (x13 < (x12.n : Int))) (
  0 ≤ x13 ∧ x13 < (x12.n : Int) ∧ (unSome x12.p (fun a =>
  ∃ x14 : Int, rd H4 (a.add (x13.toNat * 3)) = some (.int .i64 x14) ∧ ∃ x15 : Int, rd H4 ((a.add (x13.toNat * 3)).add 1) = some (.int .i64 x15) ∧ ∃ x16 : Int, rd H4 ((a.add (x13.toNat * 3)).add 2) = some (.int .i64 x16) ∧ (
  letH (H4.push (.cells #[.int .i64 (0 : Int), .int .i64 (0 : Int), .int .i64 (0 : Int)] t_api_Route (0, 0))) (fun H5 : Heap =>
  okRow H5 (⟨H4.size, 0, none⟩ : Addr) 3 ∧ (
  letH (wrs H5 (⟨H4.size, 0, none⟩ : Addr) [.int .i64 x14, .int .i64 x15, .int .i64 x16]) (fun H6 : Heap =>
  ∃ J_ : Bool → Heap → Prop, (
  ∃ x17 : Int, rd H6 (⟨H4.size, 0, none⟩ : Addr) = some (.int .i64 x17) ∧ (
  iteB (x17 == x) (
  ∃ x18 : Int, rd H6 ((⟨H4.size, 0, none⟩ : Addr).add 1) = some (.int .i64 x18) ∧ (
  J_ (x18 == x1) H6)) (
  J_ false H6))) ∧ (∀ x19 : Bool, ∀ H7 : Heap, J_ x19 H7 → F_interrupts_LinkOf_k1 R I_ M_ x13 H4 x19 H7)))))))) (
  R (.tuple #[.int .i64 (0 : Int), .bool false]) H4)

def F_interrupts_LinkOf (R : Value → Heap → Prop) (l : Sl) (h_0 : Int) (h_1 : Sl) (h_2 : Sl) (h_3 : Sl) (h_4 : Sl) (h_5 : Sl) (h_6 : Sl) (h_7 : Sl) (function : Int) (H : Heap) : Prop :=
  letH (H.push (.cells #[.int .i64 h_0, .slice h_1.p h_1.n h_1.c, .slice h_2.p h_2.n h_2.c, .slice h_3.p h_3.n h_3.c, .slice h_4.p h_4.n h_4.c, .slice h_5.p h_5.n h_5.c, .slice h_6.p h_6.n h_6.c, .slice h_7.p h_7.n h_7.c] t_api_Host (0, 0))) (fun H1 : Heap =>
  CallsH Tryd.prog n_interrupts_Swizzle #[.slice l.p l.n l.c, .int .i64 function] H1 (fun v H2 =>
  ∃ x : Int, ∃ x1 : Int, ∃ x2 : Bool, v = .tuple #[.int .i64 x, .int .i64 x1, .bool x2] ∧ (
  iteB (!x2) (
  R (.tuple #[.int .i64 (0 : Int), .bool false]) H2) (
  ∃ x3 : Int, rd H2 (⟨H.size, 0, none⟩ : Addr) = some (.int .i64 x3) ∧ ∃ x4 : Sl, rd H2 ((⟨H.size, 0, none⟩ : Addr).add 1) = some (.slice x4.p x4.n x4.c) ∧ ∃ x5 : Sl, rd H2 ((⟨H.size, 0, none⟩ : Addr).add 2) = some (.slice x5.p x5.n x5.c) ∧ ∃ x6 : Sl, rd H2 ((⟨H.size, 0, none⟩ : Addr).add 3) = some (.slice x6.p x6.n x6.c) ∧ ∃ x7 : Sl, rd H2 ((⟨H.size, 0, none⟩ : Addr).add 4) = some (.slice x7.p x7.n x7.c) ∧ ∃ x8 : Sl, rd H2 ((⟨H.size, 0, none⟩ : Addr).add 5) = some (.slice x8.p x8.n x8.c) ∧ ∃ x9 : Sl, rd H2 ((⟨H.size, 0, none⟩ : Addr).add 6) = some (.slice x9.p x9.n x9.c) ∧ ∃ x10 : Sl, rd H2 ((⟨H.size, 0, none⟩ : Addr).add 7) = some (.slice x10.p x10.n x10.c) ∧ (
  CallsH Tryd.prog n_allocate_ValidHost #[.agg #[.int .i64 x3, .slice x4.p x4.n x4.c, .slice x5.p x5.n x5.c, .slice x6.p x6.n x6.c, .slice x7.p x7.n x7.c, .slice x8.p x8.n x8.c, .slice x9.p x9.n x9.c, .slice x10.p x10.n x10.c]] H2 (fun v1 H3 =>
  ∃ x11 : Bool, v1 = .bool x11 ∧ (
  iteB (!x11) (
  R (.tuple #[.int .i64 (0 : Int), .bool false]) H3) (
  ∃ x12 : Sl, rd H3 ((⟨H.size, 0, none⟩ : Addr).add 7) = some (.slice x12.p x12.n x12.c) ∧ (
  ∃ I_ : Int → Heap → Prop, ∃ M_ : Int → Heap → Nat, I_ (0 : Int) H3 ∧ (∀ x13 : Int, ∀ H4 : Heap, I_ x13 H4 → F_interrupts_LinkOf_r2 R x x1 x12 I_ M_ x13 H4))))))))))

theorem F_interrupts_LinkOf_eq (R : Value → Heap → Prop) (l : Sl) (h_0 : Int) (h_1 : Sl) (h_2 : Sl) (h_3 : Sl) (h_4 : Sl) (h_5 : Sl) (h_6 : Sl) (h_7 : Sl) (function : Int) (H : Heap) : wpF Tryd.prog Tryd.f20 [(30, .int .i64 0), (43, .bool false)] [(8, [43], [8, 9, 12, 28, 29, 30])] [(5, [30], [8, 9, 28, 29])] [6] [.slice l.p l.n l.c, .agg #[.int .i64 h_0, .slice h_1.p h_1.n h_1.c, .slice h_2.p h_2.n h_2.c, .slice h_3.p h_3.n h_3.c, .slice h_4.p h_4.n h_4.c, .slice h_5.p h_5.n h_5.c, .slice h_6.p h_6.n h_6.c, .slice h_7.p h_7.n h_7.c], .int .i64 function] H R = F_interrupts_LinkOf R l h_0 h_1 h_2 h_3 h_4 h_5 h_6 h_7 function H := by kernel_rfl

theorem F_interrupts_LinkOf_ok {R : Value → Heap → Prop} (l : Sl) (h_0 : Int) (h_1 : Sl) (h_2 : Sl) (h_3 : Sl) (h_4 : Sl) (h_5 : Sl) (h_6 : Sl) (h_7 : Sl) (function : Int) {H : Heap} (h : F_interrupts_LinkOf R l h_0 h_1 h_2 h_3 h_4 h_5 h_6 h_7 function H) : CallsH Tryd.prog n_interrupts_LinkOf #[.slice l.p l.n l.c, .agg #[.int .i64 h_0, .slice h_1.p h_1.n h_1.c, .slice h_2.p h_2.n h_2.c, .slice h_3.p h_3.n h_3.c, .slice h_4.p h_4.n h_4.c, .slice h_5.p h_5.n h_5.c, .slice h_6.p h_6.n h_6.c, .slice h_7.p h_7.n h_7.c], .int .i64 function] H R :=
  wpF_ok Tryd.func20 (F_interrupts_LinkOf_eq R l h_0 h_1 h_2 h_3 h_4 h_5 h_6 h_7 function H) h

/-! ### 21: math/bits.TrailingZeros32 -/

def F_math_bits_TrailingZeros32 (R : Value → Heap → Prop) (x : Int) (H : Heap) : Prop :=
  iteB (x == (0 : Int)) (
  R (.int .i64 (32 : Int)) H) (
  0 ≤ (27 : Int) ∧ (
  0 ≤ ((IntKind.u32.wrap ((bitsAnd .u32 x (IntKind.u32.wrap (0 - x))) * (125613361 : Int))).fdiv (2 ^ (min (27 : Int).toNat IntKind.u32.bits))) ∧ ((IntKind.u32.wrap ((bitsAnd .u32 x (IntKind.u32.wrap (0 - x))) * (125613361 : Int))).fdiv (2 ^ (min (27 : Int).toNat IntKind.u32.bits))) < ((32 : Nat) : Int) ∧ (∃ x1 : Int, rd H ((⟨0, 0, none⟩ : Addr).add (((IntKind.u32.wrap ((bitsAnd .u32 x (IntKind.u32.wrap (0 - x))) * (125613361 : Int))).fdiv (2 ^ (min (27 : Int).toNat IntKind.u32.bits))).toNat * 1)) = some (.int .u8 x1) ∧ (
  letV (IntKind.i64.wrap x1) (fun x2 : Int =>
  R (.int .i64 x2) H)))))

theorem F_math_bits_TrailingZeros32_eq (R : Value → Heap → Prop) (x : Int) (H : Heap) : wpF Tryd.prog Tryd.f21 [] [] [] [6] [.int .u32 x] H R = F_math_bits_TrailingZeros32 R x H := by kernel_rfl

theorem F_math_bits_TrailingZeros32_ok {R : Value → Heap → Prop} (x : Int) {H : Heap} (h : F_math_bits_TrailingZeros32 R x H) : CallsH Tryd.prog n_math_bits_TrailingZeros32 #[.int .u32 x] H R :=
  wpF_ok Tryd.func21 (F_math_bits_TrailingZeros32_eq R x H) h

/-! ### 22: platformfw/platformfwgen.bars -/

def F_gen_bars_k1 (n : Int) (J_ : Int → Heap → Prop) (x2 : Bool) (H2 : Heap) : Prop :=
  iteB x2 (
  letV (IntKind.i64.wrap ((8 : Int) + (n.tmod (16 : Int)))) (fun n2 : Int =>
  J_ n2 H2)) (
  letV (IntKind.i64.wrap ((30 : Int) + (n.tmod (4 : Int)))) (fun n3 : Int =>
  J_ n3 H2))

def F_gen_bars_k2 (most : Int) (I_ : Sl → Int → Heap → Prop) (M_ : Sl → Int → Heap → Nat) (out : Sl) (i : Int) (H1 : Heap) (k : Int) (n4 : Int) (H3 : Heap) : Prop :=
  iteB (decide (k < (3 : Int))) (
  letH (H3.push (.cells #[.int .i64 k, .int .i64 n4] t_api_Bar (0, 0))) (fun H4 : Heap =>
  runH Tryd.prog (Builtin.append_ #[t_sl_api_Bar, t_sl_api_Bar] t_sl_api_Bar #[.slice out.p out.n out.c, .slice (some (⟨H3.size, 0, none⟩ : Addr)) 1 1]) H4 (fun v2 H5 =>
  ∃ out1 : Sl, v2 = .slice out1.p out1.n out1.c ∧ (
  letV (IntKind.i64.wrap (i + (1 : Int))) (fun i1 : Int =>
  I_ out1 i1 H5 ∧ M_ out1 i1 H5 < M_ out i H1))))) (
  iteB (decide ((IntKind.i64.wrap ((out.n : Int) + (2 : Int))) ≤ most)) (
  letH (H3.push (.cells #[.int .i64 k, .int .i64 n4, .int .i64 (0 : Int), .int .i64 (0 : Int)] t_api_Bar (0, 0))) (fun H6 : Heap =>
  runH Tryd.prog (Builtin.append_ #[t_sl_api_Bar, t_sl_api_Bar] t_sl_api_Bar #[.slice out.p out.n out.c, .slice (some (⟨H3.size, 0, none⟩ : Addr)) 2 2]) H6 (fun v3 H7 =>
  ∃ out2 : Sl, v3 = .slice out2.p out2.n out2.c ∧ (
  letV (IntKind.i64.wrap (i + (1 : Int))) (fun i2 : Int =>
  I_ out2 i2 H7 ∧ M_ out2 i2 H7 < M_ out i H1))))) (
  letV (IntKind.i64.wrap (i + (1 : Int))) (fun i3 : Int =>
  I_ out i3 H3 ∧ M_ out i3 H3 < M_ out i H1)))

def F_gen_bars_r3 (R : Value → Heap → Prop) (l : Sl) (most : Int) (I_ : Sl → Int → Heap → Prop) (M_ : Sl → Int → Heap → Nat) (out : Sl) (i : Int) (H1 : Heap) : Prop :=
  iteB (decide (i < (l.n : Int))) (
  iteB (decide ((out.n : Int) < most)) (
  0 ≤ i ∧ i < (l.n : Int) ∧ (unSome l.p (fun a =>
  ∃ x : Int, rd H1 (a.add (i.toNat * 2)) = some (.int .i64 x) ∧ (
  CallsP Tryd.prog n_help_Mod #[.int .i64 x, .int .i64 (5 : Int)] (fun v =>
  ∃ k : Int, v = .int .i64 k ∧ (
  0 ≤ i ∧ i < (l.n : Int) ∧ (unSome l.p (fun a1 =>
  ∃ x1 : Int, rd H1 ((a1.add (i.toNat * 2)).add 1) = some (.int .i64 x1) ∧ (
  CallsP Tryd.prog n_help_Mod #[.int .i64 x1, .int .i64 (30 : Int)] (fun v1 =>
  ∃ n : Int, v1 = .int .i64 n ∧ (
  ∃ J_ : Int → Heap → Prop, (
  iteB (k == (0 : Int)) (
  J_ (0 : Int) H1) (
  iteB (k == (1 : Int)) (
  letV (IntKind.i64.wrap ((2 : Int) + (n.tmod (7 : Int)))) (fun n1 : Int =>
  J_ n1 H1)) (
  ∃ J_1 : Bool → Heap → Prop, (
  iteB (k == (2 : Int)) (
  J_1 true H1) (
  J_1 ((n.tmod (8 : Int)) != (7 : Int)) H1)) ∧ (∀ x2 : Bool, ∀ H2 : Heap, J_1 x2 H2 → F_gen_bars_k1 n J_ x2 H2)))) ∧ (∀ n4 : Int, ∀ H3 : Heap, J_ n4 H3 → F_gen_bars_k2 most I_ M_ out i H1 k n4 H3)))))))))))) (
  R (.slice out.p out.n out.c) H1)) (
  R (.slice out.p out.n out.c) H1)

def F_gen_bars (R : Value → Heap → Prop) (l : Sl) (most : Int) (H : Heap) : Prop :=
  ∃ I_ : Sl → Int → Heap → Prop, ∃ M_ : Sl → Int → Heap → Nat, I_ (Sl.mk none 0 0) (0 : Int) H ∧ (∀ out : Sl, ∀ i : Int, ∀ H1 : Heap, I_ out i H1 → F_gen_bars_r3 R l most I_ M_ out i H1)

theorem F_gen_bars_eq (R : Value → Heap → Prop) (l : Sl) (most : Int) (H : Heap) : wpF Tryd.prog Tryd.f22 [(5, .slice none 0 0), (6, .int .i64 0), (8, .int .i64 0), (45, .bool false)] [(13, [8], [0, 1, 5, 6, 7]), (12, [45], [0, 1, 5, 6, 7, 8])] [(3, [5, 6], [0, 1])] [6] [.slice l.p l.n l.c, .int .i64 most] H R = F_gen_bars R l most H := by kernel_rfl

theorem F_gen_bars_ok {R : Value → Heap → Prop} (l : Sl) (most : Int) {H : Heap} (h : F_gen_bars R l most H) : CallsH Tryd.prog n_gen_bars #[.slice l.p l.n l.c, .int .i64 most] H R :=
  wpF_ok Tryd.func22 (F_gen_bars_eq R l most H) h

/-! ### 23: platformfw/platformfwref18.Valid -/

def F_ref18_Valid_r1 (R : Value → Heap → Prop) (l : Sl) (I_ : Int → Heap → Prop) (M_ : Int → Heap → Nat) (i : Int) (H1 : Heap) (I_1 : Int → Heap → Prop) (M_1 : Int → Heap → Nat) (k : Int) (H4 : Heap) : Prop :=
  iteB (decide (k < i)) (
  0 ≤ k ∧ k < (l.n : Int) ∧ (unSome l.p (fun a6 =>
  ∃ x17 : Int, rd H4 (a6.add (k.toNat * 11)) = some (.int .i64 x17) ∧ (
  0 ≤ i ∧ i < (l.n : Int) ∧ (unSome l.p (fun a7 =>
  ∃ x18 : Int, rd H4 (a7.add (i.toNat * 11)) = some (.int .i64 x18) ∧ (
  iteB (x17 == x18) (
  0 ≤ k ∧ k < (l.n : Int) ∧ (unSome l.p (fun a8 =>
  ∃ x19 : Int, rd H4 ((a8.add (k.toNat * 11)).add 1) = some (.int .i64 x19) ∧ (
  0 ≤ i ∧ i < (l.n : Int) ∧ (unSome l.p (fun a9 =>
  ∃ x20 : Int, rd H4 ((a9.add (i.toNat * 11)).add 1) = some (.int .i64 x20) ∧ (
  iteB (x19 == x20) (
  R (.bool false) H4) (
  letV (IntKind.i64.wrap (k + (1 : Int))) (fun k1 : Int =>
  I_1 k1 H4 ∧ M_1 k1 H4 < M_1 k H4))))))))) (
  letV (IntKind.i64.wrap (k + (1 : Int))) (fun k2 : Int =>
  I_1 k2 H4 ∧ M_1 k2 H4 < M_1 k H4))))))))) (
  letV (IntKind.i64.wrap (i + (1 : Int))) (fun i1 : Int =>
  I_ i1 H4 ∧ M_ i1 H4 < M_ i H1))

def F_ref18_Valid_k2 (R : Value → Heap → Prop) (l : Sl) (I_ : Int → Heap → Prop) (M_ : Int → Heap → Nat) (i : Int) (H1 : Heap) (H3 : Heap) : Prop :=
  ∃ I_1 : Int → Heap → Prop, ∃ M_1 : Int → Heap → Nat, I_1 (0 : Int) H3 ∧ (∀ k : Int, ∀ H4 : Heap, I_1 k H4 → F_ref18_Valid_r1 R l I_ M_ i H1 I_1 M_1 k H4)

def F_ref18_Valid_r3 (R : Value → Heap → Prop) (l : Sl) (I_ : Int → Heap → Prop) (M_ : Int → Heap → Nat) (i : Int) (H1 : Heap) : Prop :=
  iteB (decide (i < (l.n : Int))) (
  ∃ J_ : Heap → Prop, (
  0 ≤ i ∧ i < (l.n : Int) ∧ (unSome l.p (fun a =>
  ∃ x : Int, rd H1 (a.add (i.toNat * 11)) = some (.int .i64 x) ∧ ∃ x1 : Int, rd H1 ((a.add (i.toNat * 11)).add 1) = some (.int .i64 x1) ∧ ∃ x2 : Int, rd H1 ((a.add (i.toNat * 11)).add 2) = some (.int .i64 x2) ∧ ∃ x3 : Int, rd H1 ((a.add (i.toNat * 11)).add 3) = some (.int .i64 x3) ∧ ∃ x4 : Bool, rd H1 ((a.add (i.toNat * 11)).add 4) = some (.bool x4) ∧ ∃ x5 : Bool, rd H1 ((a.add (i.toNat * 11)).add 5) = some (.bool x5) ∧ ∃ x6 : Bool, rd H1 ((a.add (i.toNat * 11)).add 6) = some (.bool x6) ∧ ∃ x7 : Int, rd H1 ((a.add (i.toNat * 11)).add 7) = some (.int .i64 x7) ∧ ∃ x8 : Int, rd H1 ((a.add (i.toNat * 11)).add 8) = some (.int .i64 x8) ∧ ∃ x9 : Int, rd H1 ((a.add (i.toNat * 11)).add 9) = some (.int .i64 x9) ∧ ∃ x10 : Sl, rd H1 ((a.add (i.toNat * 11)).add 10) = some (.slice x10.p x10.n x10.c) ∧ (
  CallsH Tryd.prog n_ref18_ValidFunction #[.agg #[.int .i64 x, .int .i64 x1, .int .i64 x2, .int .i64 x3, .bool x4, .bool x5, .bool x6, .int .i64 x7, .int .i64 x8, .int .i64 x9, .slice x10.p x10.n x10.c]] H1 (fun v H2 =>
  ∃ x11 : Bool, v = .bool x11 ∧ (
  iteB (!x11) (
  R (.bool false) H2) (
  0 ≤ i ∧ i < (l.n : Int) ∧ (unSome l.p (fun a1 =>
  ∃ x12 : Int, rd H2 (a1.add (i.toNat * 11)) = some (.int .i64 x12) ∧ (
  iteB (decide (x12 < (-1 : Int))) (
  R (.bool false) H2) (
  0 ≤ i ∧ i < (l.n : Int) ∧ (unSome l.p (fun a2 =>
  ∃ x13 : Int, rd H2 (a2.add (i.toNat * 11)) = some (.int .i64 x13) ∧ (
  iteB (decide (x13 ≥ i)) (
  R (.bool false) H2) (
  0 ≤ i ∧ i < (l.n : Int) ∧ (unSome l.p (fun a3 =>
  ∃ x14 : Int, rd H2 (a3.add (i.toNat * 11)) = some (.int .i64 x14) ∧ (
  iteB (decide (x14 ≥ (0 : Int))) (
  0 ≤ i ∧ i < (l.n : Int) ∧ (unSome l.p (fun a4 =>
  ∃ x15 : Int, rd H2 (a4.add (i.toNat * 11)) = some (.int .i64 x15) ∧ (
  0 ≤ x15 ∧ x15 < (l.n : Int) ∧ (unSome l.p (fun a5 =>
  ∃ x16 : Bool, rd H2 ((a5.add (x15.toNat * 11)).add 4) = some (.bool x16) ∧ (
  iteB (!x16) (
  R (.bool false) H2) (
  J_ H2)))))))) (
  J_ H2))))))))))))))))))) ∧ (∀ H3 : Heap, J_ H3 → F_ref18_Valid_k2 R l I_ M_ i H1 H3)) (
  R (.bool true) H1)

def F_ref18_Valid (R : Value → Heap → Prop) (l : Sl) (H : Heap) : Prop :=
  iteB (decide ((l.n : Int) > (64 : Int))) (
  R (.bool false) H) (
  ∃ I_ : Int → Heap → Prop, ∃ M_ : Int → Heap → Nat, I_ (0 : Int) H ∧ (∀ i : Int, ∀ H1 : Heap, I_ i H1 → F_ref18_Valid_r3 R l I_ M_ i H1))

theorem F_ref18_Valid_eq (R : Value → Heap → Prop) (l : Sl) (H : Heap) : wpF Tryd.prog Tryd.f23 [(3, .int .i64 0), (4, .int .i64 0)] [(8, [], [0, 3])] [(4, [3], [0]), (9, [4], [0, 3])] [6] [.slice l.p l.n l.c] H R = F_ref18_Valid R l H := by kernel_rfl

theorem F_ref18_Valid_ok {R : Value → Heap → Prop} (l : Sl) {H : Heap} (h : F_ref18_Valid R l H) : CallsH Tryd.prog n_ref18_Valid #[.slice l.p l.n l.c] H R :=
  wpF_ok Tryd.func23 (F_ref18_Valid_eq R l H) h

/-! ### 24: platformfw/platformfwref21.ValidHost -/

def F_ref21_ValidHost_r1 (R : Value → Heap → Prop) (H : Heap) (I_ : Int → Heap → Prop) (M_ : Int → Heap → Nat) (i : Int) (H7 : Heap) : Prop :=
  ∃ x14 : Sl, rd H7 ((⟨H.size, 0, none⟩ : Addr).add 7) = some (.slice x14.p x14.n x14.c) ∧ (
  iteB (decide (i < (x14.n : Int))) (
  ∃ x15 : Sl, rd H7 ((⟨H.size, 0, none⟩ : Addr).add 7) = some (.slice x15.p x15.n x15.c) ∧ (
  0 ≤ i ∧ i < (x15.n : Int) ∧ (unSome x15.p (fun a =>
  ∃ x16 : Int, rd H7 (a.add (i.toNat * 3)) = some (.int .i64 x16) ∧ ∃ x17 : Int, rd H7 ((a.add (i.toNat * 3)).add 1) = some (.int .i64 x17) ∧ ∃ x18 : Int, rd H7 ((a.add (i.toNat * 3)).add 2) = some (.int .i64 x18) ∧ (
  letH (H7.push (.cells #[.int .i64 (0 : Int), .int .i64 (0 : Int), .int .i64 (0 : Int)] t_api_Route (0, 0))) (fun H8 : Heap =>
  okRow H8 (⟨H7.size, 0, none⟩ : Addr) 3 ∧ (
  letH (wrs H8 (⟨H7.size, 0, none⟩ : Addr) [.int .i64 x16, .int .i64 x17, .int .i64 x18]) (fun H9 : Heap =>
  ∃ x19 : Int, rd H9 (⟨H7.size, 0, none⟩ : Addr) = some (.int .i64 x19) ∧ (
  iteB (decide (x19 < (0 : Int))) (
  R (.bool false) H9) (
  ∃ x20 : Int, rd H9 (⟨H7.size, 0, none⟩ : Addr) = some (.int .i64 x20) ∧ (
  iteB (decide (x20 > (31 : Int))) (
  R (.bool false) H9) (
  ∃ x21 : Int, rd H9 ((⟨H7.size, 0, none⟩ : Addr).add 1) = some (.int .i64 x21) ∧ (
  iteB (decide (x21 < (1 : Int))) (
  R (.bool false) H9) (
  ∃ x22 : Int, rd H9 ((⟨H7.size, 0, none⟩ : Addr).add 1) = some (.int .i64 x22) ∧ (
  iteB (decide (x22 > (4 : Int))) (
  R (.bool false) H9) (
  ∃ x23 : Int, rd H9 ((⟨H7.size, 0, none⟩ : Addr).add 2) = some (.int .i64 x23) ∧ (
  iteB (decide (x23 < (0 : Int))) (
  R (.bool false) H9) (
  ∃ x24 : Int, rd H9 ((⟨H7.size, 0, none⟩ : Addr).add 2) = some (.int .i64 x24) ∧ (
  ∃ x25 : Sl, rd H9 ((⟨H.size, 0, none⟩ : Addr).add 6) = some (.slice x25.p x25.n x25.c) ∧ (
  iteB (decide (x24 ≥ (x25.n : Int))) (
  R (.bool false) H9) (
  letV (IntKind.i64.wrap (i + (1 : Int))) (fun i1 : Int =>
  I_ i1 H9 ∧ M_ i1 H9 < M_ i H7)))))))))))))))))))))) (
  R (.bool true) H7))

def F_ref21_ValidHost (R : Value → Heap → Prop) (h_0 : Int) (h_1 : Sl) (h_2 : Sl) (h_3 : Sl) (h_4 : Sl) (h_5 : Sl) (h_6 : Sl) (h_7 : Sl) (H : Heap) : Prop :=
  letH (H.push (.cells #[.int .i64 h_0, .slice h_1.p h_1.n h_1.c, .slice h_2.p h_2.n h_2.c, .slice h_3.p h_3.n h_3.c, .slice h_4.p h_4.n h_4.c, .slice h_5.p h_5.n h_5.c, .slice h_6.p h_6.n h_6.c, .slice h_7.p h_7.n h_7.c] t_api_Host (0, 0))) (fun H1 : Heap =>
  ∃ x : Int, rd H1 (⟨H.size, 0, none⟩ : Addr) = some (.int .i64 x) ∧ (
  iteB (decide (x < (1 : Int))) (
  R (.bool false) H1) (
  ∃ x1 : Int, rd H1 (⟨H.size, 0, none⟩ : Addr) = some (.int .i64 x1) ∧ (
  iteB (decide (x1 > (256 : Int))) (
  R (.bool false) H1) (
  ∃ x2 : Sl, rd H1 ((⟨H.size, 0, none⟩ : Addr).add 6) = some (.slice x2.p x2.n x2.c) ∧ (
  iteB (decide ((x2.n : Int) > (16 : Int))) (
  R (.bool false) H1) (
  ∃ x3 : Sl, rd H1 ((⟨H.size, 0, none⟩ : Addr).add 7) = some (.slice x3.p x3.n x3.c) ∧ (
  iteB (decide ((x3.n : Int) > (128 : Int))) (
  R (.bool false) H1) (
  ∃ x4 : Sl, rd H1 ((⟨H.size, 0, none⟩ : Addr).add 1) = some (.slice x4.p x4.n x4.c) ∧ (
  CallsH Tryd.prog n_ref21_within #[.slice x4.p x4.n x4.c, .int .u64 (0 : Int), .int .u64 (65536 : Int)] H1 (fun v H2 =>
  ∃ x5 : Bool, v = .bool x5 ∧ (
  iteB (!x5) (
  R (.bool false) H2) (
  ∃ x6 : Sl, rd H2 ((⟨H.size, 0, none⟩ : Addr).add 4) = some (.slice x6.p x6.n x6.c) ∧ (
  CallsH Tryd.prog n_ref21_within #[.slice x6.p x6.n x6.c, .int .u64 (0 : Int), .int .u64 (65536 : Int)] H2 (fun v1 H3 =>
  ∃ x7 : Bool, v1 = .bool x7 ∧ (
  iteB (!x7) (
  R (.bool false) H3) (
  ∃ x8 : Sl, rd H3 ((⟨H.size, 0, none⟩ : Addr).add 2) = some (.slice x8.p x8.n x8.c) ∧ (
  CallsH Tryd.prog n_ref21_within #[.slice x8.p x8.n x8.c, .int .u64 (0 : Int), .int .u64 (4294967296 : Int)] H3 (fun v2 H4 =>
  ∃ x9 : Bool, v2 = .bool x9 ∧ (
  iteB (!x9) (
  R (.bool false) H4) (
  ∃ x10 : Sl, rd H4 ((⟨H.size, 0, none⟩ : Addr).add 5) = some (.slice x10.p x10.n x10.c) ∧ (
  CallsH Tryd.prog n_ref21_within #[.slice x10.p x10.n x10.c, .int .u64 (0 : Int), .int .u64 (4503599627370496 : Int)] H4 (fun v3 H5 =>
  ∃ x11 : Bool, v3 = .bool x11 ∧ (
  iteB (!x11) (
  R (.bool false) H5) (
  ∃ x12 : Sl, rd H5 ((⟨H.size, 0, none⟩ : Addr).add 3) = some (.slice x12.p x12.n x12.c) ∧ (
  CallsH Tryd.prog n_ref21_within #[.slice x12.p x12.n x12.c, .int .u64 (4294967296 : Int), .int .u64 (4503599627370496 : Int)] H5 (fun v4 H6 =>
  ∃ x13 : Bool, v4 = .bool x13 ∧ (
  iteB (!x13) (
  R (.bool false) H6) (
  ∃ I_ : Int → Heap → Prop, ∃ M_ : Int → Heap → Nat, I_ (0 : Int) H6 ∧ (∀ i : Int, ∀ H7 : Heap, I_ i H7 → F_ref21_ValidHost_r1 R H I_ M_ i H7))))))))))))))))))))))))))))))

theorem F_ref21_ValidHost_eq (R : Value → Heap → Prop) (h_0 : Int) (h_1 : Sl) (h_2 : Sl) (h_3 : Sl) (h_4 : Sl) (h_5 : Sl) (h_6 : Sl) (h_7 : Sl) (H : Heap) : wpF Tryd.prog Tryd.f24 [(3, .int .i64 0)] [] [(6, [3], [1])] [6] [.agg #[.int .i64 h_0, .slice h_1.p h_1.n h_1.c, .slice h_2.p h_2.n h_2.c, .slice h_3.p h_3.n h_3.c, .slice h_4.p h_4.n h_4.c, .slice h_5.p h_5.n h_5.c, .slice h_6.p h_6.n h_6.c, .slice h_7.p h_7.n h_7.c]] H R = F_ref21_ValidHost R h_0 h_1 h_2 h_3 h_4 h_5 h_6 h_7 H := by kernel_rfl

theorem F_ref21_ValidHost_ok {R : Value → Heap → Prop} (h_0 : Int) (h_1 : Sl) (h_2 : Sl) (h_3 : Sl) (h_4 : Sl) (h_5 : Sl) (h_6 : Sl) (h_7 : Sl) {H : Heap} (h : F_ref21_ValidHost R h_0 h_1 h_2 h_3 h_4 h_5 h_6 h_7 H) : CallsH Tryd.prog n_ref21_ValidHost #[.agg #[.int .i64 h_0, .slice h_1.p h_1.n h_1.c, .slice h_2.p h_2.n h_2.c, .slice h_3.p h_3.n h_3.c, .slice h_4.p h_4.n h_4.c, .slice h_5.p h_5.n h_5.c, .slice h_6.p h_6.n h_6.c, .slice h_7.p h_7.n h_7.c]] H R :=
  wpF_ok Tryd.func24 (F_ref21_ValidHost_eq R h_0 h_1 h_2 h_3 h_4 h_5 h_6 h_7 H) h

/-! ### 25: platformfw/platformfwgen.ranges -/

def F_gen_ranges_r1 (R : Value → Heap → Prop) (l : Sl) (fromv : Int) (unit : Int) (most : Int) (n : Int) (I_ : Sl → Int → Heap → Prop) (M_ : Sl → Int → Heap → Nat) (out : Sl) (i : Int) (H1 : Heap) : Prop :=
  iteB (decide (i < (l.n : Int))) (
  iteB (decide (i < most)) (
  0 ≤ i ∧ i < (l.n : Int) ∧ (unSome l.p (fun a =>
  ∃ x : Int, rd H1 (a.add (i.toNat * 2)) = some (.int .u64 x) ∧ (
  n ≠ 0 ∧ (
  0 ≤ i ∧ i < (l.n : Int) ∧ (unSome l.p (fun a1 =>
  ∃ x1 : Int, rd H1 ((a1.add (i.toNat * 2)).add 1) = some (.int .u64 x1) ∧ (
  (IntKind.u64.wrap (n - (x.tmod n))) ≠ 0 ∧ (
  letH (H1.push (.cells #[.int .u64 (IntKind.u64.wrap (fromv + (IntKind.u64.wrap ((x.tmod n) * unit)))), .int .u64 (IntKind.u64.wrap ((IntKind.u64.wrap ((1 : Int) + (x1.tmod (IntKind.u64.wrap (n - (x.tmod n)))))) * unit))] t_api_Range (0, 0))) (fun H2 : Heap =>
  runH Tryd.prog (Builtin.append_ #[t_sl_api_Range, t_sl_api_Range] t_sl_api_Range #[.slice out.p out.n out.c, .slice (some (⟨H1.size, 0, none⟩ : Addr)) 1 1]) H2 (fun v H3 =>
  ∃ out1 : Sl, v = .slice out1.p out1.n out1.c ∧ (
  letV (IntKind.i64.wrap (i + (1 : Int))) (fun i1 : Int =>
  I_ out1 i1 H3 ∧ M_ out1 i1 H3 < M_ out i H1))))))))))))) (
  R (.slice out.p out.n out.c) H1)) (
  R (.slice out.p out.n out.c) H1)

def F_gen_ranges (R : Value → Heap → Prop) (l : Sl) (fromv : Int) (to : Int) (unit : Int) (most : Int) (H : Heap) : Prop :=
  unit ≠ 0 ∧ (
  letV (IntKind.u64.wrap ((IntKind.u64.wrap (to - fromv)).tdiv unit)) (fun n : Int =>
  ∃ I_ : Sl → Int → Heap → Prop, ∃ M_ : Sl → Int → Heap → Nat, I_ (Sl.mk none 0 0) (0 : Int) H ∧ (∀ out : Sl, ∀ i : Int, ∀ H1 : Heap, I_ out i H1 → F_gen_ranges_r1 R l fromv unit most n I_ M_ out i H1)))

theorem F_gen_ranges_eq (R : Value → Heap → Prop) (l : Sl) (fromv : Int) (to : Int) (unit : Int) (most : Int) (H : Heap) : wpF Tryd.prog Tryd.f25 [(11, .slice none 0 0), (13, .int .i64 0)] [] [(4, [11, 13], [0, 1, 3, 4, 12])] [6] [.slice l.p l.n l.c, .int .u64 fromv, .int .u64 to, .int .u64 unit, .int .i64 most] H R = F_gen_ranges R l fromv to unit most H := by kernel_rfl

theorem F_gen_ranges_ok {R : Value → Heap → Prop} (l : Sl) (fromv : Int) (to : Int) (unit : Int) (most : Int) {H : Heap} (h : F_gen_ranges R l fromv to unit most H) : CallsH Tryd.prog n_gen_ranges #[.slice l.p l.n l.c, .int .u64 fromv, .int .u64 to, .int .u64 unit, .int .i64 most] H R :=
  wpF_ok Tryd.func25 (F_gen_ranges_eq R l fromv to unit most H) h

/-! ### 26: platformfw/platformfwref21.Swizzle -/

def F_ref21_Swizzle_r1 (R : Value → Heap → Prop) (l : Sl) (I_ : Int → Int → Heap → Prop) (M_ : Int → Int → Heap → Nat) (i1 : Int) (pin1 : Int) (H3 : Heap) : Prop :=
  0 ≤ i1 ∧ i1 < (l.n : Int) ∧ (unSome l.p (fun a2 =>
  ∃ x3 : Int, rd H3 (a2.add (i1.toNat * 11)) = some (.int .i64 x3) ∧ (
  iteB (decide (x3 ≥ (0 : Int))) (
  0 ≤ i1 ∧ i1 < (l.n : Int) ∧ (unSome l.p (fun a3 =>
  ∃ x4 : Int, rd H3 ((a3.add (i1.toNat * 11)).add 1) = some (.int .i64 x4) ∧ (
  letV (IntKind.i64.wrap (((IntKind.i64.wrap ((IntKind.i64.wrap (pin1 - (1 : Int))) + x4)).tmod (4 : Int)) + (1 : Int))) (fun pin2 : Int =>
  0 ≤ i1 ∧ i1 < (l.n : Int) ∧ (unSome l.p (fun a4 =>
  ∃ i2 : Int, rd H3 (a4.add (i1.toNat * 11)) = some (.int .i64 i2) ∧ (
  I_ i2 pin2 H3 ∧ M_ i2 pin2 H3 < M_ i1 pin1 H3)))))))) (
  0 ≤ i1 ∧ i1 < (l.n : Int) ∧ (unSome l.p (fun a5 =>
  ∃ x5 : Int, rd H3 ((a5.add (i1.toNat * 11)).add 1) = some (.int .i64 x5) ∧ (
  R (.tuple #[.int .i64 x5, .int .i64 pin1, .bool true]) H3)))))))

def F_ref21_Swizzle_k2 (R : Value → Heap → Prop) (l : Sl) (i : Int) (x2 : Bool) (H2 : Heap) : Prop :=
  iteB x2 (
  R (.tuple #[.int .i64 (0 : Int), .int .i64 (0 : Int), .bool false]) H2) (
  0 ≤ i ∧ i < (l.n : Int) ∧ (unSome l.p (fun a1 =>
  ∃ pin : Int, rd H2 ((a1.add (i.toNat * 11)).add 8) = some (.int .i64 pin) ∧ (
  ∃ I_ : Int → Int → Heap → Prop, ∃ M_ : Int → Int → Heap → Nat, I_ i pin H2 ∧ (∀ i1 : Int, ∀ pin1 : Int, ∀ H3 : Heap, I_ i1 pin1 H3 → F_ref21_Swizzle_r1 R l I_ M_ i1 pin1 H3)))))

def F_ref21_Swizzle (R : Value → Heap → Prop) (l : Sl) (i : Int) (H : Heap) : Prop :=
  ∃ J_ : Bool → Heap → Prop, (
  CallsH Tryd.prog n_ref18_Valid #[.slice l.p l.n l.c] H (fun v H1 =>
  ∃ x : Bool, v = .bool x ∧ (
  iteB (!x) (
  J_ true H1) (
  iteB (decide (i < (0 : Int))) (
  J_ true H1) (
  iteB (decide (i ≥ (l.n : Int))) (
  J_ true H1) (
  0 ≤ i ∧ i < (l.n : Int) ∧ (unSome l.p (fun a =>
  ∃ x1 : Int, rd H1 ((a.add (i.toNat * 11)).add 8) = some (.int .i64 x1) ∧ (
  J_ (x1 == (0 : Int)) H1))))))))) ∧ (∀ x2 : Bool, ∀ H2 : Heap, J_ x2 H2 → F_ref21_Swizzle_k2 R l i x2 H2)

theorem F_ref21_Swizzle_eq (R : Value → Heap → Prop) (l : Sl) (i : Int) (H : Heap) : wpF Tryd.prog Tryd.f26 [(1, .int .i64 0), (7, .int .i64 0), (28, .bool false)] [(2, [28], [0, 1])] [(4, [1, 7], [0])] [6] [.slice l.p l.n l.c, .int .i64 i] H R = F_ref21_Swizzle R l i H := by kernel_rfl

theorem F_ref21_Swizzle_ok {R : Value → Heap → Prop} (l : Sl) (i : Int) {H : Heap} (h : F_ref21_Swizzle R l i H) : CallsH Tryd.prog n_ref21_Swizzle #[.slice l.p l.n l.c, .int .i64 i] H R :=
  wpF_ok Tryd.func26 (F_ref21_Swizzle_eq R l i H) h

/-! ### 27: platformfw/interrupts.swizzle -/

def F_interrupts_swizzle_r1 (R : Value → Heap → Prop) (l : Sl) (I_ : Int → Int → Heap → Prop) (M_ : Int → Int → Heap → Nat) (function1 : Int) (pin1 : Int) (H1 : Heap) : Prop :=
  0 ≤ function1 ∧ function1 < (l.n : Int) ∧ (unSome l.p (fun a1 =>
  ∃ x : Int, rd H1 (a1.add (function1.toNat * 11)) = some (.int .i64 x) ∧ (
  iteB (decide (x ≥ (0 : Int))) (
  0 ≤ function1 ∧ function1 < (l.n : Int) ∧ (unSome l.p (fun a2 =>
  ∃ x1 : Int, rd H1 ((a2.add (function1.toNat * 11)).add 1) = some (.int .i64 x1) ∧ (
  letV (IntKind.i64.wrap (((IntKind.i64.wrap ((IntKind.i64.wrap (pin1 - (1 : Int))) + x1)).tmod (4 : Int)) + (1 : Int))) (fun pin2 : Int =>
  0 ≤ function1 ∧ function1 < (l.n : Int) ∧ (unSome l.p (fun a3 =>
  ∃ function2 : Int, rd H1 (a3.add (function1.toNat * 11)) = some (.int .i64 function2) ∧ (
  I_ function2 pin2 H1 ∧ M_ function2 pin2 H1 < M_ function1 pin1 H1)))))))) (
  0 ≤ function1 ∧ function1 < (l.n : Int) ∧ (unSome l.p (fun a4 =>
  ∃ x2 : Int, rd H1 ((a4.add (function1.toNat * 11)).add 1) = some (.int .i64 x2) ∧ (
  R (.tuple #[.int .i64 x2, .int .i64 pin1]) H1)))))))

def F_interrupts_swizzle (R : Value → Heap → Prop) (l : Sl) (function : Int) (H : Heap) : Prop :=
  0 ≤ function ∧ function < (l.n : Int) ∧ (unSome l.p (fun a =>
  ∃ pin : Int, rd H ((a.add (function.toNat * 11)).add 8) = some (.int .i64 pin) ∧ (
  ∃ I_ : Int → Int → Heap → Prop, ∃ M_ : Int → Int → Heap → Nat, I_ function pin H ∧ (∀ function1 : Int, ∀ pin1 : Int, ∀ H1 : Heap, I_ function1 pin1 H1 → F_interrupts_swizzle_r1 R l I_ M_ function1 pin1 H1))))

theorem F_interrupts_swizzle_eq (R : Value → Heap → Prop) (l : Sl) (function : Int) (H : Heap) : wpF Tryd.prog Tryd.f27 [(1, .int .i64 0), (6, .int .i64 0)] [] [(2, [1, 6], [0])] [6] [.slice l.p l.n l.c, .int .i64 function] H R = F_interrupts_swizzle R l function H := by kernel_rfl

theorem F_interrupts_swizzle_ok {R : Value → Heap → Prop} (l : Sl) (function : Int) {H : Heap} (h : F_interrupts_swizzle R l function H) : CallsH Tryd.prog n_interrupts_swizzle #[.slice l.p l.n l.c, .int .i64 function] H R :=
  wpF_ok Tryd.func27 (F_interrupts_swizzle_eq R l function H) h

/-! ### 28: math/bits.Len -/

def F_math_bits_Len (R : Value → Heap → Prop) (x : Int) (H : Heap) : Prop :=
  CallsH Tryd.prog n_math_bits_Len64 #[.int .u64 x] H (fun v H1 =>
  ∃ x1 : Int, v = .int .i64 x1 ∧ (
  R (.int .i64 x1) H1))

theorem F_math_bits_Len_eq (R : Value → Heap → Prop) (x : Int) (H : Heap) : wpF Tryd.prog Tryd.f28 [] [] [] [6] [.int .u64 x] H R = F_math_bits_Len R x H := by kernel_rfl

theorem F_math_bits_Len_ok {R : Value → Heap → Prop} (x : Int) {H : Heap} (h : F_math_bits_Len R x H) : CallsH Tryd.prog n_math_bits_Len #[.int .u64 x] H R :=
  wpF_ok Tryd.func28 (F_math_bits_Len_eq R x H) h

/-! ### 29: platformfw/allocate.Place -/

def F_allocate_Place_r1 (R : Value → Heap → Prop) (H : Heap) (free : Sl) (H1 : Heap) (H3 : Heap) (x2 : Sl) (H9 : Heap) (x4 : Sl) (I_1 : Sl → Int → Heap → Prop) (M_1 : Sl → Int → Heap → Nat) (left1 : Sl) (x5 : Int) (H11 : Heap) : Prop :=
  iteB (decide (x5 < (((x2.n : Int).toNat : Nat) : Int))) (
  0 ≤ x5 ∧ x5 < (((x2.n : Int).toNat : Nat) : Int) ∧ (∃ item : Int, rd H11 ((⟨H3.size, 0, none⟩ : Addr).add (x5.toNat * 1)) = some (.int .i64 item) ∧ (
  ∃ x6 : Sl, rd H11 (⟨H.size, 0, none⟩ : Addr) = some (.slice x6.p x6.n x6.c) ∧ (
  0 ≤ item ∧ item < (x6.n : Int) ∧ (unSome x6.p (fun a =>
  ∃ x7 : Int, rd H11 (a.add (item.toNat * 1)) = some (.int .i64 x7) ∧ (
  CallsH Tryd.prog n_allocate_take #[.slice left1.p left1.n left1.c, .int .i64 x7] H11 (fun v3 H12 =>
  ∃ x8 : Int, ∃ x9 : Sl, ∃ x10 : Bool, v3 = .tuple #[.int .u64 x8, .slice x9.p x9.n x9.c, .bool x10] ∧ (
  iteB (!x10) (
  ∃ x11 : Sl, rd H12 (⟨H.size, 0, none⟩ : Addr) = some (.slice x11.p x11.n x11.c) ∧ (
  CallsH Tryd.prog n_allocate_merged #[.slice free.p free.n free.c] H12 (fun v4 H13 =>
  ∃ x12 : Sl, v4 = .slice x12.p x12.n x12.c ∧ (
  Keeps H12 H13 [((⟨H.size, 0, none⟩ : Addr), 1)] ∧ (
  CallsH Tryd.prog n_allocate_certificate #[.slice x12.p x12.n x12.c, .slice x11.p x11.n x11.c] H13 (fun v5 H14 =>
  ∃ x13 : Int, ∃ x14 : Int, ∃ x15 : Int, ∃ x16 : Int, v5 = .agg #[.int .i64 x13, .int .i64 x14, .int .u64 x15, .int .u64 x16] ∧ (
  okRow H14 (⟨H1.size, 0, none⟩ : Addr) 4 ∧ (
  letH (wrs H14 (⟨H1.size, 0, none⟩ : Addr) [.int .i64 x13, .int .i64 x14, .int .u64 x15, .int .u64 x16]) (fun H15 : Heap =>
  ∃ r4 : Int, rd H15 (⟨H1.size, 0, none⟩ : Addr) = some (.int .i64 r4) ∧ ∃ r5 : Int, rd H15 ((⟨H1.size, 0, none⟩ : Addr).add 1) = some (.int .i64 r5) ∧ ∃ r6 : Int, rd H15 ((⟨H1.size, 0, none⟩ : Addr).add 2) = some (.int .u64 r6) ∧ ∃ r7 : Int, rd H15 ((⟨H1.size, 0, none⟩ : Addr).add 3) = some (.int .u64 r7) ∧ (
  R (.tuple #[.slice none 0 0, .agg #[.int .i64 r4, .int .i64 r5, .int .u64 r6, .int .u64 r7], .int .i64 (19 : Int)]) H15)))))))))) (
  0 ≤ item ∧ item < (((x4.n : Int).toNat : Nat) : Int) ∧ (okRow H12 ((⟨H9.size, 0, none⟩ : Addr).add (item.toNat * 1)) 1 ∧ (
  letH (wrs H12 ((⟨H9.size, 0, none⟩ : Addr).add (item.toNat * 1)) [.int .u64 x8]) (fun H16 : Heap =>
  I_1 x9 (IntKind.i64.wrap (x5 + (1 : Int))) H16 ∧ M_1 x9 (IntKind.i64.wrap (x5 + (1 : Int))) H16 < M_1 left1 x5 H11))))))))))))) (
  okRow H11 (⟨H1.size, 0, none⟩ : Addr) 4 ∧ (
  letH (wrs H11 (⟨H1.size, 0, none⟩ : Addr) [.int .i64 (0 : Int), .int .i64 (0 : Int), .int .u64 (0 : Int), .int .u64 (0 : Int)]) (fun H17 : Heap =>
  ∃ r8 : Int, rd H17 (⟨H1.size, 0, none⟩ : Addr) = some (.int .i64 r8) ∧ ∃ r9 : Int, rd H17 ((⟨H1.size, 0, none⟩ : Addr).add 1) = some (.int .i64 r9) ∧ ∃ r10 : Int, rd H17 ((⟨H1.size, 0, none⟩ : Addr).add 2) = some (.int .u64 r10) ∧ ∃ r11 : Int, rd H17 ((⟨H1.size, 0, none⟩ : Addr).add 3) = some (.int .u64 r11) ∧ (
  R (.tuple #[.slice (some (⟨H9.size, 0, none⟩ : Addr)) ((x4.n : Int).toNat) ((x4.n : Int).toNat), .agg #[.int .i64 r8, .int .i64 r9, .int .u64 r10, .int .u64 r11], .int .i64 (0 : Int)]) H17))))

def F_allocate_Place_r2 (R : Value → Heap → Prop) (H : Heap) (free : Sl) (H1 : Heap) (H3 : Heap) (x2 : Sl) (I_ : Int → Heap → Prop) (M_ : Int → Heap → Nat) (x3 : Int) (H6 : Heap) : Prop :=
  iteB (decide (x3 < (((x2.n : Int).toNat : Nat) : Int))) (
  0 ≤ x3 ∧ x3 < (((x2.n : Int).toNat : Nat) : Int) ∧ (okRow H6 ((⟨H3.size, 0, none⟩ : Addr).add (x3.toNat * 1)) 1 ∧ (
  letH (wrs H6 ((⟨H3.size, 0, none⟩ : Addr).add (x3.toNat * 1)) [.int .i64 x3]) (fun H7 : Heap =>
  I_ (IntKind.i64.wrap (x3 + (1 : Int))) H7 ∧ M_ (IntKind.i64.wrap (x3 + (1 : Int))) H7 < M_ x3 H6)))) (
  CallsH Tryd.prog n_slices_SortStableFunc_sl_int_int #[.slice (some (⟨H3.size, 0, none⟩ : Addr)) ((x2.n : Int).toNat) ((x2.n : Int).toNat), .func (.func 39) #[] #[.pointer (some (⟨H.size, 0, none⟩ : Addr))]] H6 (fun v1 H8 =>
  v1 = .tuple #[] ∧ (
  CallsH Tryd.prog n_allocate_merged #[.slice free.p free.n free.c] H8 (fun v2 H9 =>
  ∃ left : Sl, v2 = .slice left.p left.n left.c ∧ (
  ∃ x4 : Sl, rd H9 (⟨H.size, 0, none⟩ : Addr) = some (.slice x4.p x4.n x4.c) ∧ (
  0 ≤ (x4.n : Int) ∧ (x4.n : Int) ≤ (x4.n : Int) ∧ (x4.n : Int) * ((8 : Nat) : Int) ≤ 281474976710656 ∧ (
  letH (H9.push (.cells (zeroRow (.int .u64 (0 : Int)) (x4.n : Int).toNat) t_uint64 (0, 0))) (fun H10 : Heap =>
  ∃ I_1 : Sl → Int → Heap → Prop, ∃ M_1 : Sl → Int → Heap → Nat, I_1 left (0 : Int) H10 ∧ (∀ left1 : Sl, ∀ x5 : Int, ∀ H11 : Heap, I_1 left1 x5 H11 → F_allocate_Place_r1 R H free H1 H3 x2 H9 x4 I_1 M_1 left1 x5 H11)))))))))

def F_allocate_Place (R : Value → Heap → Prop) (free : Sl) (sizes : Sl) (H : Heap) : Prop :=
  letH (H.push (.cells #[.slice sizes.p sizes.n sizes.c] t_sl_int (0, 0))) (fun H1 : Heap =>
  letH (H1.push (.cells #[.int .i64 (0 : Int), .int .i64 (0 : Int), .int .u64 (0 : Int), .int .u64 (0 : Int)] t_api_Certificate (0, 0))) (fun H2 : Heap =>
  ∃ x : Sl, rd H2 (⟨H.size, 0, none⟩ : Addr) = some (.slice x.p x.n x.c) ∧ (
  CallsH Tryd.prog n_allocate_placeable #[.slice free.p free.n free.c, .slice x.p x.n x.c] H2 (fun v H3 =>
  ∃ x1 : Bool, v = .bool x1 ∧ (
  iteB (!x1) (
  okRow H3 (⟨H1.size, 0, none⟩ : Addr) 4 ∧ (
  letH (wrs H3 (⟨H1.size, 0, none⟩ : Addr) [.int .i64 (0 : Int), .int .i64 (0 : Int), .int .u64 (0 : Int), .int .u64 (0 : Int)]) (fun H4 : Heap =>
  ∃ r : Int, rd H4 (⟨H1.size, 0, none⟩ : Addr) = some (.int .i64 r) ∧ ∃ r1 : Int, rd H4 ((⟨H1.size, 0, none⟩ : Addr).add 1) = some (.int .i64 r1) ∧ ∃ r2 : Int, rd H4 ((⟨H1.size, 0, none⟩ : Addr).add 2) = some (.int .u64 r2) ∧ ∃ r3 : Int, rd H4 ((⟨H1.size, 0, none⟩ : Addr).add 3) = some (.int .u64 r3) ∧ (
  R (.tuple #[.slice none 0 0, .agg #[.int .i64 r, .int .i64 r1, .int .u64 r2, .int .u64 r3], .int .i64 (1 : Int)]) H4)))) (
  ∃ x2 : Sl, rd H3 (⟨H.size, 0, none⟩ : Addr) = some (.slice x2.p x2.n x2.c) ∧ (
  0 ≤ (x2.n : Int) ∧ (x2.n : Int) ≤ (x2.n : Int) ∧ (x2.n : Int) * ((8 : Nat) : Int) ≤ 281474976710656 ∧ (
  letH (H3.push (.cells (zeroRow (.int .i64 (0 : Int)) (x2.n : Int).toNat) t_int (0, 0))) (fun H5 : Heap =>
  ∃ I_ : Int → Heap → Prop, ∃ M_ : Int → Heap → Nat, I_ (0 : Int) H5 ∧ (∀ x3 : Int, ∀ H6 : Heap, I_ x3 H6 → F_allocate_Place_r2 R H free H1 H3 x2 I_ M_ x3 H6))))))))))

theorem F_allocate_Place_eq (R : Value → Heap → Prop) (free : Sl) (sizes : Sl) (H : Heap) : wpF Tryd.prog Tryd.f29 [(9, .slice none 0 0), (26, .int .i64 0), (44, .int .i64 0)] [] [(5, [26], [0, 3, 5, 7, 25]), (13, [9, 44], [0, 3, 5, 10, 42, 43])] [6] [.slice free.p free.n free.c, .slice sizes.p sizes.n sizes.c] H R = F_allocate_Place R free sizes H := by kernel_rfl

theorem F_allocate_Place_ok {R : Value → Heap → Prop} (free : Sl) (sizes : Sl) {H : Heap} (h : F_allocate_Place R free sizes H) : CallsH Tryd.prog n_allocate_Place #[.slice free.p free.n free.c, .slice sizes.p sizes.n sizes.c] H R :=
  wpF_ok Tryd.func29 (F_allocate_Place_eq R free sizes H) h

/-! ### 30: platformfw/pciconf.Valid -/

def F_pciconf_Valid_r1 (R : Value → Heap → Prop) (H : Heap) (x23 : Sl) (I_ : Int → Heap → Prop) (M_ : Int → Heap → Nat) (x24 : Int) (H5 : Heap) : Prop :=
  iteB (decide (x24 < (x23.n : Int))) (
  ∃ x25 : Sl, rd H5 ((⟨H.size, 0, none⟩ : Addr).add 10) = some (.slice x25.p x25.n x25.c) ∧ (
  CallsH Tryd.prog n_pciconf_validBar #[.slice x25.p x25.n x25.c, .int .i64 x24] H5 (fun v1 H6 =>
  ∃ x26 : Bool, v1 = .bool x26 ∧ (
  iteB (!x26) (
  R (.bool false) H6) (
  I_ (IntKind.i64.wrap (x24 + (1 : Int))) H6 ∧ M_ (IntKind.i64.wrap (x24 + (1 : Int))) H6 < M_ x24 H5))))) (
  R (.bool true) H5)

def F_pciconf_Valid_k2 (R : Value → Heap → Prop) (H : Heap) (H3 : Heap) : Prop :=
  ∃ x20 : Sl, rd H3 ((⟨H.size, 0, none⟩ : Addr).add 10) = some (.slice x20.p x20.n x20.c) ∧ (
  ∃ x21 : Bool, rd H3 ((⟨H.size, 0, none⟩ : Addr).add 4) = some (.bool x21) ∧ (
  CallsH Tryd.prog n_pciconf_registers #[.bool x21] H3 (fun v H4 =>
  ∃ x22 : Int, v = .int .i64 x22 ∧ (
  Keeps H3 H4 [(((⟨H.size, 0, none⟩ : Addr).add 10), 1)] ∧ (
  iteB (decide ((x20.n : Int) > x22)) (
  R (.bool false) H4) (
  ∃ x23 : Sl, rd H4 ((⟨H.size, 0, none⟩ : Addr).add 10) = some (.slice x23.p x23.n x23.c) ∧ (
  ∃ I_ : Int → Heap → Prop, ∃ M_ : Int → Heap → Nat, I_ (0 : Int) H4 ∧ (∀ x24 : Int, ∀ H5 : Heap, I_ x24 H5 → F_pciconf_Valid_r1 R H x23 I_ M_ x24 H5))))))))

def F_pciconf_Valid_k3 (R : Value → Heap → Prop) (H : Heap) (H2 : Heap) : Prop :=
  ∃ J_1 : Heap → Prop, (
  ∃ x17 : Bool, rd H2 ((⟨H.size, 0, none⟩ : Addr).add 4) = some (.bool x17) ∧ (
  iteB (!x17) (
  ∃ x18 : Bool, rd H2 ((⟨H.size, 0, none⟩ : Addr).add 5) = some (.bool x18) ∧ (
  iteB x18 (
  R (.bool false) H2) (
  ∃ x19 : Bool, rd H2 ((⟨H.size, 0, none⟩ : Addr).add 6) = some (.bool x19) ∧ (
  iteB x19 (
  R (.bool false) H2) (
  J_1 H2))))) (
  J_1 H2))) ∧ (∀ H3 : Heap, J_1 H3 → F_pciconf_Valid_k2 R H H3)

def F_pciconf_Valid (R : Value → Heap → Prop) (f_0 : Int) (f_1 : Int) (f_2 : Int) (f_3 : Int) (f_4 : Bool) (f_5 : Bool) (f_6 : Bool) (f_7 : Int) (f_8 : Int) (f_9 : Int) (f_10 : Sl) (H : Heap) : Prop :=
  letH (H.push (.cells #[.int .i64 f_0, .int .i64 f_1, .int .i64 f_2, .int .i64 f_3, .bool f_4, .bool f_5, .bool f_6, .int .i64 f_7, .int .i64 f_8, .int .i64 f_9, .slice f_10.p f_10.n f_10.c] t_api_Function (0, 0))) (fun H1 : Heap =>
  ∃ x : Int, rd H1 ((⟨H.size, 0, none⟩ : Addr).add 2) = some (.int .i64 x) ∧ (
  iteB (decide (x < (1 : Int))) (
  R (.bool false) H1) (
  ∃ x1 : Int, rd H1 ((⟨H.size, 0, none⟩ : Addr).add 2) = some (.int .i64 x1) ∧ (
  iteB (decide (x1 > (65534 : Int))) (
  R (.bool false) H1) (
  ∃ x2 : Int, rd H1 ((⟨H.size, 0, none⟩ : Addr).add 3) = some (.int .i64 x2) ∧ (
  iteB (decide (x2 < (0 : Int))) (
  R (.bool false) H1) (
  ∃ x3 : Int, rd H1 ((⟨H.size, 0, none⟩ : Addr).add 3) = some (.int .i64 x3) ∧ (
  iteB (decide (x3 > (65535 : Int))) (
  R (.bool false) H1) (
  ∃ x4 : Int, rd H1 ((⟨H.size, 0, none⟩ : Addr).add 1) = some (.int .i64 x4) ∧ (
  iteB (decide (x4 < (0 : Int))) (
  R (.bool false) H1) (
  ∃ x5 : Int, rd H1 ((⟨H.size, 0, none⟩ : Addr).add 1) = some (.int .i64 x5) ∧ (
  iteB (decide (x5 > (31 : Int))) (
  R (.bool false) H1) (
  ∃ x6 : Int, rd H1 ((⟨H.size, 0, none⟩ : Addr).add 8) = some (.int .i64 x6) ∧ (
  iteB (decide (x6 < (0 : Int))) (
  R (.bool false) H1) (
  ∃ x7 : Int, rd H1 ((⟨H.size, 0, none⟩ : Addr).add 8) = some (.int .i64 x7) ∧ (
  iteB (decide (x7 > (4 : Int))) (
  R (.bool false) H1) (
  ∃ x8 : Int, rd H1 ((⟨H.size, 0, none⟩ : Addr).add 9) = some (.int .i64 x8) ∧ (
  iteB (decide (x8 < (0 : Int))) (
  R (.bool false) H1) (
  ∃ x9 : Int, rd H1 ((⟨H.size, 0, none⟩ : Addr).add 9) = some (.int .i64 x9) ∧ (
  iteB (decide (x9 > (32 : Int))) (
  R (.bool false) H1) (
  ∃ x10 : Int, rd H1 ((⟨H.size, 0, none⟩ : Addr).add 9) = some (.int .i64 x10) ∧ (
  ∃ x11 : Int, rd H1 ((⟨H.size, 0, none⟩ : Addr).add 9) = some (.int .i64 x11) ∧ (
  iteB ((bitsAnd .i64 x10 (IntKind.i64.wrap (x11 - (1 : Int)))) != (0 : Int)) (
  R (.bool false) H1) (
  ∃ J_ : Heap → Prop, (
  ∃ x12 : Int, rd H1 ((⟨H.size, 0, none⟩ : Addr).add 7) = some (.int .i64 x12) ∧ (
  iteB (decide (x12 < (0 : Int))) (
  R (.bool false) H1) (
  ∃ x13 : Int, rd H1 ((⟨H.size, 0, none⟩ : Addr).add 7) = some (.int .i64 x13) ∧ (
  iteB (decide (x13 > (32 : Int))) (
  R (.bool false) H1) (
  ∃ x14 : Int, rd H1 ((⟨H.size, 0, none⟩ : Addr).add 7) = some (.int .i64 x14) ∧ (
  iteB (decide (x14 > (0 : Int))) (
  ∃ x15 : Bool, rd H1 ((⟨H.size, 0, none⟩ : Addr).add 4) = some (.bool x15) ∧ (
  iteB x15 (
  ∃ x16 : Bool, rd H1 ((⟨H.size, 0, none⟩ : Addr).add 6) = some (.bool x16) ∧ (
  iteB (!x16) (
  R (.bool false) H1) (
  J_ H1))) (
  R (.bool false) H1))) (
  J_ H1))))))) ∧ (∀ H2 : Heap, J_ H2 → F_pciconf_Valid_k3 R H H2)))))))))))))))))))))))))

theorem F_pciconf_Valid_eq (R : Value → Heap → Prop) (f_0 : Int) (f_1 : Int) (f_2 : Int) (f_3 : Int) (f_4 : Bool) (f_5 : Bool) (f_6 : Bool) (f_7 : Int) (f_8 : Int) (f_9 : Int) (f_10 : Sl) (H : Heap) : wpF Tryd.prog Tryd.f30 [(100, .int .i64 0)] [(9, [], [1]), (11, [], [1])] [(14, [100], [1, 99])] [6] [.agg #[.int .i64 f_0, .int .i64 f_1, .int .i64 f_2, .int .i64 f_3, .bool f_4, .bool f_5, .bool f_6, .int .i64 f_7, .int .i64 f_8, .int .i64 f_9, .slice f_10.p f_10.n f_10.c]] H R = F_pciconf_Valid R f_0 f_1 f_2 f_3 f_4 f_5 f_6 f_7 f_8 f_9 f_10 H := by kernel_rfl

theorem F_pciconf_Valid_ok {R : Value → Heap → Prop} (f_0 : Int) (f_1 : Int) (f_2 : Int) (f_3 : Int) (f_4 : Bool) (f_5 : Bool) (f_6 : Bool) (f_7 : Int) (f_8 : Int) (f_9 : Int) (f_10 : Sl) {H : Heap} (h : F_pciconf_Valid R f_0 f_1 f_2 f_3 f_4 f_5 f_6 f_7 f_8 f_9 f_10 H) : CallsH Tryd.prog n_pciconf_Valid #[.agg #[.int .i64 f_0, .int .i64 f_1, .int .i64 f_2, .int .i64 f_3, .bool f_4, .bool f_5, .bool f_6, .int .i64 f_7, .int .i64 f_8, .int .i64 f_9, .slice f_10.p f_10.n f_10.c]] H R :=
  wpF_ok Tryd.func30 (F_pciconf_Valid_eq R f_0 f_1 f_2 f_3 f_4 f_5 f_6 f_7 f_8 f_9 f_10 H) h

/-! ### 31: platformfw/allocate.validRanges -/

def F_allocate_validRanges (R : Value → Heap → Prop) (l : Sl) (H : Heap) : Prop :=
  iteB (decide ((l.n : Int) ≤ (1024 : Int))) (
  CallsH Tryd.prog n_allocate_within #[.slice l.p l.n l.c, .int .u64 (0 : Int), .int .u64 (4503599627370496 : Int)] H (fun v H1 =>
  ∃ x : Bool, v = .bool x ∧ (
  R (.bool x) H1))) (
  R (.bool false) H)

theorem F_allocate_validRanges_eq (R : Value → Heap → Prop) (l : Sl) (H : Heap) : wpF Tryd.prog Tryd.f31 [] [] [] [6] [.slice l.p l.n l.c] H R = F_allocate_validRanges R l H := by kernel_rfl

theorem F_allocate_validRanges_ok {R : Value → Heap → Prop} (l : Sl) {H : Heap} (h : F_allocate_validRanges R l H) : CallsH Tryd.prog n_allocate_validRanges #[.slice l.p l.n l.c] H R :=
  wpF_ok Tryd.func31 (F_allocate_validRanges_eq R l H) h

/-! ### 32: platformfw/allocate.within -/

def F_allocate_within_r1 (R : Value → Heap → Prop) (l : Sl) (base : Int) (endv : Int) (I_ : Int → Heap → Prop) (M_ : Int → Heap → Nat) (x : Int) (H1 : Heap) : Prop :=
  iteB (decide (x < (l.n : Int))) (
  0 ≤ x ∧ x < (l.n : Int) ∧ (unSome l.p (fun a =>
  ∃ x1 : Int, rd H1 (a.add (x.toNat * 2)) = some (.int .u64 x1) ∧ ∃ x2 : Int, rd H1 ((a.add (x.toNat * 2)).add 1) = some (.int .u64 x2) ∧ (
  letH (H1.push (.cells #[.int .u64 (0 : Int), .int .u64 (0 : Int)] t_api_Range (0, 0))) (fun H2 : Heap =>
  okRow H2 (⟨H1.size, 0, none⟩ : Addr) 2 ∧ (
  letH (wrs H2 (⟨H1.size, 0, none⟩ : Addr) [.int .u64 x1, .int .u64 x2]) (fun H3 : Heap =>
  ∃ x3 : Int, rd H3 ((⟨H1.size, 0, none⟩ : Addr).add 1) = some (.int .u64 x3) ∧ (
  iteB (decide (x3 < (1 : Int))) (
  R (.bool false) H3) (
  ∃ x4 : Int, rd H3 (⟨H1.size, 0, none⟩ : Addr) = some (.int .u64 x4) ∧ (
  iteB (decide (x4 < base)) (
  R (.bool false) H3) (
  ∃ x5 : Int, rd H3 (⟨H1.size, 0, none⟩ : Addr) = some (.int .u64 x5) ∧ (
  iteB (decide (x5 > endv)) (
  R (.bool false) H3) (
  ∃ x6 : Int, rd H3 ((⟨H1.size, 0, none⟩ : Addr).add 1) = some (.int .u64 x6) ∧ (
  ∃ x7 : Int, rd H3 (⟨H1.size, 0, none⟩ : Addr) = some (.int .u64 x7) ∧ (
  iteB (decide (x6 > (IntKind.u64.wrap (endv - x7)))) (
  R (.bool false) H3) (
  I_ (IntKind.i64.wrap (x + (1 : Int))) H3 ∧ M_ (IntKind.i64.wrap (x + (1 : Int))) H3 < M_ x H1)))))))))))))))) (
  R (.bool true) H1)

def F_allocate_within (R : Value → Heap → Prop) (l : Sl) (base : Int) (endv : Int) (H : Heap) : Prop :=
  ∃ I_ : Int → Heap → Prop, ∃ M_ : Int → Heap → Nat, I_ (0 : Int) H ∧ (∀ x : Int, ∀ H1 : Heap, I_ x H1 → F_allocate_within_r1 R l base endv I_ M_ x H1)

theorem F_allocate_within_eq (R : Value → Heap → Prop) (l : Sl) (base : Int) (endv : Int) (H : Heap) : wpF Tryd.prog Tryd.f32 [(11, .int .i64 0)] [] [(2, [11], [1, 2, 9, 10])] [6] [.slice l.p l.n l.c, .int .u64 base, .int .u64 endv] H R = F_allocate_within R l base endv H := by kernel_rfl

theorem F_allocate_within_ok {R : Value → Heap → Prop} (l : Sl) (base : Int) (endv : Int) {H : Heap} (h : F_allocate_within R l base endv H) : CallsH Tryd.prog n_allocate_within #[.slice l.p l.n l.c, .int .u64 base, .int .u64 endv] H R :=
  wpF_ok Tryd.func32 (F_allocate_within_eq R l base endv H) h

/-! ### 33: platformfw/platformfwref18.ValidFunction -/

def F_ref18_ValidFunction_k1 (R : Value → Heap → Prop) (H : Heap) (I_ : Int → Heap → Prop) (M_ : Int → Heap → Nat) (i : Int) (H4 : Heap) (x46 : Bool) (H7 : Heap) : Prop :=
  iteB x46 (
  ∃ x47 : Int, rd H7 ((⟨H4.size, 0, none⟩ : Addr).add 1) = some (.int .i64 x47) ∧ (
  iteB (decide (x47 < (4 : Int))) (
  R (.bool false) H7) (
  ∃ x48 : Int, rd H7 ((⟨H4.size, 0, none⟩ : Addr).add 1) = some (.int .i64 x48) ∧ (
  iteB (decide (x48 > (40 : Int))) (
  R (.bool false) H7) (
  ∃ x49 : Sl, rd H7 ((⟨H.size, 0, none⟩ : Addr).add 10) = some (.slice x49.p x49.n x49.c) ∧ (
  iteB (decide ((IntKind.i64.wrap (i + (1 : Int))) ≥ (x49.n : Int))) (
  R (.bool false) H7) (
  ∃ x50 : Sl, rd H7 ((⟨H.size, 0, none⟩ : Addr).add 10) = some (.slice x50.p x50.n x50.c) ∧ (
  0 ≤ (IntKind.i64.wrap (i + (1 : Int))) ∧ (IntKind.i64.wrap (i + (1 : Int))) < (x50.n : Int) ∧ (unSome x50.p (fun a1 =>
  ∃ x51 : Int, rd H7 (a1.add ((IntKind.i64.wrap (i + (1 : Int))).toNat * 2)) = some (.int .i64 x51) ∧ (
  iteB (x51 != (0 : Int)) (
  R (.bool false) H7) (
  letV (IntKind.i64.wrap (i + (1 : Int))) (fun i4 : Int =>
  I_ i4 H7 ∧ M_ i4 H7 < M_ i H4))))))))))))) (
  R (.bool false) H7)

def F_ref18_ValidFunction_r2 (R : Value → Heap → Prop) (H : Heap) (I_ : Int → Heap → Prop) (M_ : Int → Heap → Nat) (i : Int) (H4 : Heap) : Prop :=
  ∃ x36 : Sl, rd H4 ((⟨H.size, 0, none⟩ : Addr).add 10) = some (.slice x36.p x36.n x36.c) ∧ (
  iteB (decide (i < (x36.n : Int))) (
  ∃ x37 : Sl, rd H4 ((⟨H.size, 0, none⟩ : Addr).add 10) = some (.slice x37.p x37.n x37.c) ∧ (
  0 ≤ i ∧ i < (x37.n : Int) ∧ (unSome x37.p (fun a =>
  ∃ x38 : Int, rd H4 (a.add (i.toNat * 2)) = some (.int .i64 x38) ∧ ∃ x39 : Int, rd H4 ((a.add (i.toNat * 2)).add 1) = some (.int .i64 x39) ∧ (
  letH (H4.push (.cells #[.int .i64 (0 : Int), .int .i64 (0 : Int)] t_api_Bar (0, 0))) (fun H5 : Heap =>
  okRow H5 (⟨H4.size, 0, none⟩ : Addr) 2 ∧ (
  letH (wrs H5 (⟨H4.size, 0, none⟩ : Addr) [.int .i64 x38, .int .i64 x39]) (fun H6 : Heap =>
  ∃ x40 : Int, rd H6 (⟨H4.size, 0, none⟩ : Addr) = some (.int .i64 x40) ∧ (
  iteB (x40 == (0 : Int)) (
  ∃ x41 : Int, rd H6 ((⟨H4.size, 0, none⟩ : Addr).add 1) = some (.int .i64 x41) ∧ (
  iteB (x41 != (0 : Int)) (
  R (.bool false) H6) (
  letV (IntKind.i64.wrap (i + (1 : Int))) (fun i1 : Int =>
  I_ i1 H6 ∧ M_ i1 H6 < M_ i H4)))) (
  iteB (x40 == (1 : Int)) (
  ∃ x42 : Int, rd H6 ((⟨H4.size, 0, none⟩ : Addr).add 1) = some (.int .i64 x42) ∧ (
  iteB (decide (x42 < (2 : Int))) (
  R (.bool false) H6) (
  ∃ x43 : Int, rd H6 ((⟨H4.size, 0, none⟩ : Addr).add 1) = some (.int .i64 x43) ∧ (
  iteB (decide (x43 > (8 : Int))) (
  R (.bool false) H6) (
  letV (IntKind.i64.wrap (i + (1 : Int))) (fun i2 : Int =>
  I_ i2 H6 ∧ M_ i2 H6 < M_ i H4)))))) (
  iteB (x40 == (2 : Int)) (
  ∃ x44 : Int, rd H6 ((⟨H4.size, 0, none⟩ : Addr).add 1) = some (.int .i64 x44) ∧ (
  iteB (decide (x44 < (4 : Int))) (
  R (.bool false) H6) (
  ∃ x45 : Int, rd H6 ((⟨H4.size, 0, none⟩ : Addr).add 1) = some (.int .i64 x45) ∧ (
  iteB (decide (x45 > (31 : Int))) (
  R (.bool false) H6) (
  letV (IntKind.i64.wrap (i + (1 : Int))) (fun i3 : Int =>
  I_ i3 H6 ∧ M_ i3 H6 < M_ i H4)))))) (
  ∃ J_1 : Bool → Heap → Prop, (
  iteB (x40 == (3 : Int)) (
  J_1 true H6) (
  J_1 (x40 == (4 : Int)) H6)) ∧ (∀ x46 : Bool, ∀ H7 : Heap, J_1 x46 H7 → F_ref18_ValidFunction_k1 R H I_ M_ i H4 x46 H7))))))))))))) (
  R (.bool true) H4))

def F_ref18_ValidFunction_k3 (R : Value → Heap → Prop) (H : Heap) (H2 : Heap) : Prop :=
  ∃ x23 : Sl, rd H2 ((⟨H.size, 0, none⟩ : Addr).add 10) = some (.slice x23.p x23.n x23.c) ∧ (
  ∃ x24 : Int, rd H2 (⟨H.size, 0, none⟩ : Addr) = some (.int .i64 x24) ∧ ∃ x25 : Int, rd H2 ((⟨H.size, 0, none⟩ : Addr).add 1) = some (.int .i64 x25) ∧ ∃ x26 : Int, rd H2 ((⟨H.size, 0, none⟩ : Addr).add 2) = some (.int .i64 x26) ∧ ∃ x27 : Int, rd H2 ((⟨H.size, 0, none⟩ : Addr).add 3) = some (.int .i64 x27) ∧ ∃ x28 : Bool, rd H2 ((⟨H.size, 0, none⟩ : Addr).add 4) = some (.bool x28) ∧ ∃ x29 : Bool, rd H2 ((⟨H.size, 0, none⟩ : Addr).add 5) = some (.bool x29) ∧ ∃ x30 : Bool, rd H2 ((⟨H.size, 0, none⟩ : Addr).add 6) = some (.bool x30) ∧ ∃ x31 : Int, rd H2 ((⟨H.size, 0, none⟩ : Addr).add 7) = some (.int .i64 x31) ∧ ∃ x32 : Int, rd H2 ((⟨H.size, 0, none⟩ : Addr).add 8) = some (.int .i64 x32) ∧ ∃ x33 : Int, rd H2 ((⟨H.size, 0, none⟩ : Addr).add 9) = some (.int .i64 x33) ∧ ∃ x34 : Sl, rd H2 ((⟨H.size, 0, none⟩ : Addr).add 10) = some (.slice x34.p x34.n x34.c) ∧ (
  CallsH Tryd.prog n_ref18_Registers #[.agg #[.int .i64 x24, .int .i64 x25, .int .i64 x26, .int .i64 x27, .bool x28, .bool x29, .bool x30, .int .i64 x31, .int .i64 x32, .int .i64 x33, .slice x34.p x34.n x34.c]] H2 (fun v H3 =>
  ∃ x35 : Int, v = .int .i64 x35 ∧ (
  Keeps H2 H3 [(((⟨H.size, 0, none⟩ : Addr).add 10), 1)] ∧ (
  iteB (decide ((x23.n : Int) > x35)) (
  R (.bool false) H3) (
  ∃ I_ : Int → Heap → Prop, ∃ M_ : Int → Heap → Nat, I_ (0 : Int) H3 ∧ (∀ i : Int, ∀ H4 : Heap, I_ i H4 → F_ref18_ValidFunction_r2 R H I_ M_ i H4)))))))

def F_ref18_ValidFunction (R : Value → Heap → Prop) (f_0 : Int) (f_1 : Int) (f_2 : Int) (f_3 : Int) (f_4 : Bool) (f_5 : Bool) (f_6 : Bool) (f_7 : Int) (f_8 : Int) (f_9 : Int) (f_10 : Sl) (H : Heap) : Prop :=
  letH (H.push (.cells #[.int .i64 f_0, .int .i64 f_1, .int .i64 f_2, .int .i64 f_3, .bool f_4, .bool f_5, .bool f_6, .int .i64 f_7, .int .i64 f_8, .int .i64 f_9, .slice f_10.p f_10.n f_10.c] t_api_Function (0, 0))) (fun H1 : Heap =>
  ∃ x : Int, rd H1 ((⟨H.size, 0, none⟩ : Addr).add 2) = some (.int .i64 x) ∧ (
  iteB (decide (x < (1 : Int))) (
  R (.bool false) H1) (
  ∃ x1 : Int, rd H1 ((⟨H.size, 0, none⟩ : Addr).add 2) = some (.int .i64 x1) ∧ (
  iteB (decide (x1 > (65534 : Int))) (
  R (.bool false) H1) (
  ∃ x2 : Int, rd H1 ((⟨H.size, 0, none⟩ : Addr).add 3) = some (.int .i64 x2) ∧ (
  iteB (decide (x2 < (0 : Int))) (
  R (.bool false) H1) (
  ∃ x3 : Int, rd H1 ((⟨H.size, 0, none⟩ : Addr).add 3) = some (.int .i64 x3) ∧ (
  iteB (decide (x3 > (65535 : Int))) (
  R (.bool false) H1) (
  ∃ x4 : Int, rd H1 ((⟨H.size, 0, none⟩ : Addr).add 1) = some (.int .i64 x4) ∧ (
  iteB (decide (x4 < (0 : Int))) (
  R (.bool false) H1) (
  ∃ x5 : Int, rd H1 ((⟨H.size, 0, none⟩ : Addr).add 1) = some (.int .i64 x5) ∧ (
  iteB (decide (x5 > (31 : Int))) (
  R (.bool false) H1) (
  ∃ x6 : Int, rd H1 ((⟨H.size, 0, none⟩ : Addr).add 8) = some (.int .i64 x6) ∧ (
  iteB (decide (x6 < (0 : Int))) (
  R (.bool false) H1) (
  ∃ x7 : Int, rd H1 ((⟨H.size, 0, none⟩ : Addr).add 8) = some (.int .i64 x7) ∧ (
  iteB (decide (x7 > (4 : Int))) (
  R (.bool false) H1) (
  ∃ x8 : Int, rd H1 ((⟨H.size, 0, none⟩ : Addr).add 7) = some (.int .i64 x8) ∧ (
  iteB (decide (x8 < (0 : Int))) (
  R (.bool false) H1) (
  ∃ x9 : Int, rd H1 ((⟨H.size, 0, none⟩ : Addr).add 7) = some (.int .i64 x9) ∧ (
  iteB (decide (x9 > (32 : Int))) (
  R (.bool false) H1) (
  ∃ J_ : Heap → Prop, (
  ∃ x10 : Int, rd H1 ((⟨H.size, 0, none⟩ : Addr).add 9) = some (.int .i64 x10) ∧ (
  iteB (decide (x10 < (0 : Int))) (
  R (.bool false) H1) (
  ∃ x11 : Int, rd H1 ((⟨H.size, 0, none⟩ : Addr).add 9) = some (.int .i64 x11) ∧ (
  iteB (decide (x11 > (32 : Int))) (
  R (.bool false) H1) (
  ∃ x12 : Int, rd H1 ((⟨H.size, 0, none⟩ : Addr).add 9) = some (.int .i64 x12) ∧ (
  ∃ x13 : Int, rd H1 ((⟨H.size, 0, none⟩ : Addr).add 9) = some (.int .i64 x13) ∧ (
  iteB ((bitsAnd .i64 x12 (IntKind.i64.wrap (x13 - (1 : Int)))) != (0 : Int)) (
  R (.bool false) H1) (
  ∃ x14 : Int, rd H1 ((⟨H.size, 0, none⟩ : Addr).add 7) = some (.int .i64 x14) ∧ (
  iteB (decide (x14 > (0 : Int))) (
  ∃ x15 : Bool, rd H1 ((⟨H.size, 0, none⟩ : Addr).add 4) = some (.bool x15) ∧ (
  iteB (!x15) (
  R (.bool false) H1) (
  ∃ x16 : Bool, rd H1 ((⟨H.size, 0, none⟩ : Addr).add 6) = some (.bool x16) ∧ (
  iteB (!x16) (
  R (.bool false) H1) (
  ∃ x17 : Bool, rd H1 ((⟨H.size, 0, none⟩ : Addr).add 4) = some (.bool x17) ∧ (
  iteB (!x17) (
  ∃ x18 : Bool, rd H1 ((⟨H.size, 0, none⟩ : Addr).add 5) = some (.bool x18) ∧ (
  iteB x18 (
  R (.bool false) H1) (
  ∃ x19 : Bool, rd H1 ((⟨H.size, 0, none⟩ : Addr).add 6) = some (.bool x19) ∧ (
  iteB x19 (
  R (.bool false) H1) (
  J_ H1))))) (
  J_ H1))))))) (
  ∃ x20 : Bool, rd H1 ((⟨H.size, 0, none⟩ : Addr).add 4) = some (.bool x20) ∧ (
  iteB (!x20) (
  ∃ x21 : Bool, rd H1 ((⟨H.size, 0, none⟩ : Addr).add 5) = some (.bool x21) ∧ (
  iteB x21 (
  R (.bool false) H1) (
  ∃ x22 : Bool, rd H1 ((⟨H.size, 0, none⟩ : Addr).add 6) = some (.bool x22) ∧ (
  iteB x22 (
  R (.bool false) H1) (
  J_ H1))))) (
  J_ H1)))))))))))) ∧ (∀ H2 : Heap, J_ H2 → F_ref18_ValidFunction_k3 R H H2))))))))))))))))))))))

theorem F_ref18_ValidFunction_eq (R : Value → Heap → Prop) (f_0 : Int) (f_1 : Int) (f_2 : Int) (f_3 : Int) (f_4 : Bool) (f_5 : Bool) (f_6 : Bool) (f_7 : Int) (f_8 : Int) (f_9 : Int) (f_10 : Sl) (H : Heap) : wpF Tryd.prog Tryd.f33 [(3, .int .i64 0), (143, .bool false)] [(5, [], [1]), (24, [143], [1, 3, 4])] [(8, [3], [1])] [6] [.agg #[.int .i64 f_0, .int .i64 f_1, .int .i64 f_2, .int .i64 f_3, .bool f_4, .bool f_5, .bool f_6, .int .i64 f_7, .int .i64 f_8, .int .i64 f_9, .slice f_10.p f_10.n f_10.c]] H R = F_ref18_ValidFunction R f_0 f_1 f_2 f_3 f_4 f_5 f_6 f_7 f_8 f_9 f_10 H := by kernel_rfl

theorem F_ref18_ValidFunction_ok {R : Value → Heap → Prop} (f_0 : Int) (f_1 : Int) (f_2 : Int) (f_3 : Int) (f_4 : Bool) (f_5 : Bool) (f_6 : Bool) (f_7 : Int) (f_8 : Int) (f_9 : Int) (f_10 : Sl) {H : Heap} (h : F_ref18_ValidFunction R f_0 f_1 f_2 f_3 f_4 f_5 f_6 f_7 f_8 f_9 f_10 H) : CallsH Tryd.prog n_ref18_ValidFunction #[.agg #[.int .i64 f_0, .int .i64 f_1, .int .i64 f_2, .int .i64 f_3, .bool f_4, .bool f_5, .bool f_6, .int .i64 f_7, .int .i64 f_8, .int .i64 f_9, .slice f_10.p f_10.n f_10.c]] H R :=
  wpF_ok Tryd.func33 (F_ref18_ValidFunction_eq R f_0 f_1 f_2 f_3 f_4 f_5 f_6 f_7 f_8 f_9 f_10 H) h

/-! ### 34: platformfw/platformfwref21.within -/

def F_ref21_within_r1 (R : Value → Heap → Prop) (l : Sl) (fromv : Int) (to : Int) (I_ : Int → Heap → Prop) (M_ : Int → Heap → Nat) (i : Int) (H2 : Heap) : Prop :=
  iteB (decide (i < (l.n : Int))) (
  0 ≤ i ∧ i < (l.n : Int) ∧ (unSome l.p (fun a =>
  ∃ x1 : Int, rd H2 (a.add (i.toNat * 2)) = some (.int .u64 x1) ∧ (
  iteB (decide (x1 < fromv)) (
  R (.bool false) H2) (
  0 ≤ i ∧ i < (l.n : Int) ∧ (unSome l.p (fun a1 =>
  ∃ x2 : Int, rd H2 (a1.add (i.toNat * 2)) = some (.int .u64 x2) ∧ (
  0 ≤ i ∧ i < (l.n : Int) ∧ (unSome l.p (fun a2 =>
  ∃ x3 : Int, rd H2 ((a2.add (i.toNat * 2)).add 1) = some (.int .u64 x3) ∧ (
  iteB (decide ((IntKind.u64.wrap (x2 + x3)) > to)) (
  R (.bool false) H2) (
  letV (IntKind.i64.wrap (i + (1 : Int))) (fun i1 : Int =>
  I_ i1 H2 ∧ M_ i1 H2 < M_ i H2))))))))))))) (
  R (.bool true) H2)

def F_ref21_within (R : Value → Heap → Prop) (l : Sl) (fromv : Int) (to : Int) (H : Heap) : Prop :=
  iteB (decide ((l.n : Int) > (16 : Int))) (
  R (.bool false) H) (
  CallsH Tryd.prog n_ref21_ValidRanges #[.slice l.p l.n l.c] H (fun v H1 =>
  ∃ x : Bool, v = .bool x ∧ (
  iteB (!x) (
  R (.bool false) H1) (
  ∃ I_ : Int → Heap → Prop, ∃ M_ : Int → Heap → Nat, I_ (0 : Int) H1 ∧ (∀ i : Int, ∀ H2 : Heap, I_ i H2 → F_ref21_within_r1 R l fromv to I_ M_ i H2)))))

theorem F_ref21_within_eq (R : Value → Heap → Prop) (l : Sl) (fromv : Int) (to : Int) (H : Heap) : wpF Tryd.prog Tryd.f34 [(7, .int .i64 0)] [] [(4, [7], [0, 1, 2])] [6] [.slice l.p l.n l.c, .int .u64 fromv, .int .u64 to] H R = F_ref21_within R l fromv to H := by kernel_rfl

theorem F_ref21_within_ok {R : Value → Heap → Prop} (l : Sl) (fromv : Int) (to : Int) {H : Heap} (h : F_ref21_within R l fromv to H) : CallsH Tryd.prog n_ref21_within #[.slice l.p l.n l.c, .int .u64 fromv, .int .u64 to] H R :=
  wpF_ok Tryd.func34 (F_ref21_within_eq R l fromv to H) h

/-! ### 35: math/bits.Len32 -/

def F_math_bits_Len32_k1 (R : Value → Heap → Prop) (x4 : Int) (n2 : Int) (H2 : Heap) : Prop :=
  0 ≤ (IntKind.u8.wrap x4) ∧ (IntKind.u8.wrap x4) < (cstr_0.size : Int) ∧ (
  letV (IntKind.i64.wrap (n2 + (IntKind.i64.wrap (cstr_0[(IntKind.u8.wrap x4).toNat]!.toNat : Int)))) (fun n3 : Int =>
  R (.int .i64 n3) H2))

def F_math_bits_Len32_k2 (R : Value → Heap → Prop) (x2 : Int) (n : Int) (H1 : Heap) : Prop :=
  ∃ J_1 : Int → Int → Heap → Prop, (
  iteB (decide (x2 ≥ (256 : Int))) (
  0 ≤ (8 : Int) ∧ (
  letV (x2.fdiv (2 ^ (min (8 : Int).toNat IntKind.u32.bits))) (fun x3 : Int =>
  letV (IntKind.i64.wrap (n + (8 : Int))) (fun n1 : Int =>
  J_1 x3 n1 H1)))) (
  J_1 x2 n H1)) ∧ (∀ x4 : Int, ∀ n2 : Int, ∀ H2 : Heap, J_1 x4 n2 H2 → F_math_bits_Len32_k1 R x4 n2 H2)

def F_math_bits_Len32 (R : Value → Heap → Prop) (x : Int) (H : Heap) : Prop :=
  ∃ J_ : Int → Int → Heap → Prop, (
  iteB (decide (x ≥ (65536 : Int))) (
  0 ≤ (16 : Int) ∧ (
  letV (x.fdiv (2 ^ (min (16 : Int).toNat IntKind.u32.bits))) (fun x1 : Int =>
  J_ x1 (16 : Int) H))) (
  J_ x (0 : Int) H)) ∧ (∀ x2 : Int, ∀ n : Int, ∀ H1 : Heap, J_ x2 n H1 → F_math_bits_Len32_k2 R x2 n H1)

theorem F_math_bits_Len32_eq (R : Value → Heap → Prop) (x : Int) (H : Heap) : wpF Tryd.prog Tryd.f35 [(0, .int .u32 0), (2, .int .i64 0)] [(4, [0, 2], []), (7, [0, 2], [])] [] [6] [.int .u32 x] H R = F_math_bits_Len32 R x H := by kernel_rfl

theorem F_math_bits_Len32_ok {R : Value → Heap → Prop} (x : Int) {H : Heap} (h : F_math_bits_Len32 R x H) : CallsH Tryd.prog n_math_bits_Len32 #[.int .u32 x] H R :=
  wpF_ok Tryd.func35 (F_math_bits_Len32_eq R x H) h

/-! ### 36: math/bits.Len64 -/

def F_math_bits_Len64_k1 (R : Value → Heap → Prop) (x6 : Int) (n4 : Int) (H3 : Heap) : Prop :=
  0 ≤ (IntKind.u8.wrap x6) ∧ (IntKind.u8.wrap x6) < (cstr_0.size : Int) ∧ (
  letV (IntKind.i64.wrap (n4 + (IntKind.i64.wrap (cstr_0[(IntKind.u8.wrap x6).toNat]!.toNat : Int)))) (fun n5 : Int =>
  R (.int .i64 n5) H3))

def F_math_bits_Len64_k2 (R : Value → Heap → Prop) (x4 : Int) (n2 : Int) (H2 : Heap) : Prop :=
  ∃ J_2 : Int → Int → Heap → Prop, (
  iteB (decide (x4 ≥ (256 : Int))) (
  0 ≤ (8 : Int) ∧ (
  letV (x4.fdiv (2 ^ (min (8 : Int).toNat IntKind.u64.bits))) (fun x5 : Int =>
  letV (IntKind.i64.wrap (n2 + (8 : Int))) (fun n3 : Int =>
  J_2 x5 n3 H2)))) (
  J_2 x4 n2 H2)) ∧ (∀ x6 : Int, ∀ n4 : Int, ∀ H3 : Heap, J_2 x6 n4 H3 → F_math_bits_Len64_k1 R x6 n4 H3)

def F_math_bits_Len64_k3 (R : Value → Heap → Prop) (x2 : Int) (n : Int) (H1 : Heap) : Prop :=
  ∃ J_1 : Int → Int → Heap → Prop, (
  iteB (decide (x2 ≥ (65536 : Int))) (
  0 ≤ (16 : Int) ∧ (
  letV (x2.fdiv (2 ^ (min (16 : Int).toNat IntKind.u64.bits))) (fun x3 : Int =>
  letV (IntKind.i64.wrap (n + (16 : Int))) (fun n1 : Int =>
  J_1 x3 n1 H1)))) (
  J_1 x2 n H1)) ∧ (∀ x4 : Int, ∀ n2 : Int, ∀ H2 : Heap, J_1 x4 n2 H2 → F_math_bits_Len64_k2 R x4 n2 H2)

def F_math_bits_Len64 (R : Value → Heap → Prop) (x : Int) (H : Heap) : Prop :=
  ∃ J_ : Int → Int → Heap → Prop, (
  iteB (decide (x ≥ (4294967296 : Int))) (
  0 ≤ (32 : Int) ∧ (
  letV (x.fdiv (2 ^ (min (32 : Int).toNat IntKind.u64.bits))) (fun x1 : Int =>
  J_ x1 (32 : Int) H))) (
  J_ x (0 : Int) H)) ∧ (∀ x2 : Int, ∀ n : Int, ∀ H1 : Heap, J_ x2 n H1 → F_math_bits_Len64_k3 R x2 n H1)

theorem F_math_bits_Len64_eq (R : Value → Heap → Prop) (x : Int) (H : Heap) : wpF Tryd.prog Tryd.f36 [(0, .int .u64 0), (2, .int .i64 0)] [(4, [0, 2], []), (7, [0, 2], []), (10, [0, 2], [])] [] [6] [.int .u64 x] H R = F_math_bits_Len64 R x H := by kernel_rfl

theorem F_math_bits_Len64_ok {R : Value → Heap → Prop} (x : Int) {H : Heap} (h : F_math_bits_Len64 R x H) : CallsH Tryd.prog n_math_bits_Len64 #[.int .u64 x] H R :=
  wpF_ok Tryd.func36 (F_math_bits_Len64_eq R x H) h

/-! ### 37: platformfw/allocate.placeable -/

def F_allocate_placeable_r1 (R : Value → Heap → Prop) (sizes : Sl) (I_ : Int → Heap → Prop) (M_ : Int → Heap → Nat) (x1 : Int) (H2 : Heap) : Prop :=
  iteB (decide (x1 < (sizes.n : Int))) (
  0 ≤ x1 ∧ x1 < (sizes.n : Int) ∧ (unSome sizes.p (fun a =>
  ∃ size : Int, rd H2 (a.add (x1.toNat * 1)) = some (.int .i64 size) ∧ (
  iteB (decide (size < (0 : Int))) (
  R (.bool false) H2) (
  iteB (decide (size > (44 : Int))) (
  R (.bool false) H2) (
  I_ (IntKind.i64.wrap (x1 + (1 : Int))) H2 ∧ M_ (IntKind.i64.wrap (x1 + (1 : Int))) H2 < M_ x1 H2)))))) (
  R (.bool true) H2)

def F_allocate_placeable (R : Value → Heap → Prop) (free : Sl) (sizes : Sl) (H : Heap) : Prop :=
  CallsH Tryd.prog n_allocate_validRanges #[.slice free.p free.n free.c] H (fun v H1 =>
  ∃ x : Bool, v = .bool x ∧ (
  iteB (!x) (
  R (.bool false) H1) (
  iteB (decide ((sizes.n : Int) > (1024 : Int))) (
  R (.bool false) H1) (
  ∃ I_ : Int → Heap → Prop, ∃ M_ : Int → Heap → Nat, I_ (0 : Int) H1 ∧ (∀ x1 : Int, ∀ H2 : Heap, I_ x1 H2 → F_allocate_placeable_r1 R sizes I_ M_ x1 H2)))))

theorem F_allocate_placeable_eq (R : Value → Heap → Prop) (free : Sl) (sizes : Sl) (H : Heap) : wpF Tryd.prog Tryd.f37 [(17, .int .i64 0)] [] [(4, [17], [15, 16])] [6] [.slice free.p free.n free.c, .slice sizes.p sizes.n sizes.c] H R = F_allocate_placeable R free sizes H := by kernel_rfl

theorem F_allocate_placeable_ok {R : Value → Heap → Prop} (free : Sl) (sizes : Sl) {H : Heap} (h : F_allocate_placeable R free sizes H) : CallsH Tryd.prog n_allocate_placeable #[.slice free.p free.n free.c, .slice sizes.p sizes.n sizes.c] H R :=
  wpF_ok Tryd.func37 (F_allocate_placeable_eq R free sizes H) h

/-! ### 38: slices.SortStableFunc[[]int,int] -/

def F_slices_SortStableFunc_sl_int_int (R : Value → Heap → Prop) (x : Sl) (cap : Addr) (H : Heap) : Prop :=
  CallsH Tryd.prog n_slices_stableCmpFunc_int #[.slice x.p x.n x.c, .int .i64 (x.n : Int), .func (.func 39) #[] #[.pointer (some cap)]] H (fun v H1 =>
  v = .tuple #[] ∧ (
  R (.tuple #[]) H1))

theorem F_slices_SortStableFunc_sl_int_int_eq (R : Value → Heap → Prop) (x : Sl) (cap : Addr) (H : Heap) : wpF Tryd.prog Tryd.f38 [] [] [] [6] [.slice x.p x.n x.c, .func (.func 39) #[] #[.pointer (some cap)]] H R = F_slices_SortStableFunc_sl_int_int R x cap H := by kernel_rfl

theorem F_slices_SortStableFunc_sl_int_int_ok {R : Value → Heap → Prop} (x : Sl) (cap : Addr) {H : Heap} (h : F_slices_SortStableFunc_sl_int_int R x cap H) : CallsH Tryd.prog n_slices_SortStableFunc_sl_int_int #[.slice x.p x.n x.c, .func (.func 39) #[] #[.pointer (some cap)]] H R :=
  wpF_ok Tryd.func38 (F_slices_SortStableFunc_sl_int_int_eq R x cap H) h

/-! ### 39: platformfw/allocate.Place$1 -/

def F_allocate_Place_1 (R : Value → Heap → Prop) (a : Int) (b : Int) (cap0 : Addr) (H : Heap) : Prop :=
  ∃ x : Sl, rd H cap0 = some (.slice x.p x.n x.c) ∧ (
  0 ≤ b ∧ b < (x.n : Int) ∧ (unSome x.p (fun a1 =>
  ∃ x1 : Int, rd H (a1.add (b.toNat * 1)) = some (.int .i64 x1) ∧ (
  ∃ x2 : Sl, rd H cap0 = some (.slice x2.p x2.n x2.c) ∧ (
  0 ≤ a ∧ a < (x2.n : Int) ∧ (unSome x2.p (fun a2 =>
  ∃ x3 : Int, rd H (a2.add (a.toNat * 1)) = some (.int .i64 x3) ∧ (
  CallsH Tryd.prog n_cmp_Compare_int #[.int .i64 x1, .int .i64 x3] H (fun v H1 =>
  ∃ x4 : Int, v = .int .i64 x4 ∧ (
  R (.int .i64 x4) H1))))))))))

theorem F_allocate_Place_1_eq (R : Value → Heap → Prop) (a : Int) (b : Int) (cap0 : Addr) (H : Heap) : wpF Tryd.prog Tryd.f39 [] [] [] [6] [.int .i64 a, .int .i64 b, .pointer (some cap0)] H R = F_allocate_Place_1 R a b cap0 H := by kernel_rfl

theorem F_allocate_Place_1_ok {R : Value → Heap → Prop} (a : Int) (b : Int) (cap0 : Addr) {H : Heap} (h : F_allocate_Place_1 R a b cap0 H) : CallsH Tryd.prog n_allocate_Place_1 #[.int .i64 a, .int .i64 b, .pointer (some cap0)] H R :=
  wpF_ok Tryd.func39 (F_allocate_Place_1_eq R a b cap0 H) h

/-! ### 40: cmp.Compare[int] -/

def F_cmp_Compare_int (R : Value → Heap → Prop) (x : Int) (y : Int) (H : Heap) : Prop :=
  CallsH Tryd.prog n_cmp_isNaN_int #[.int .i64 x] H (fun v H1 =>
  ∃ xNaN : Bool, v = .bool xNaN ∧ (
  CallsH Tryd.prog n_cmp_isNaN_int #[.int .i64 y] H1 (fun v1 H2 =>
  ∃ yNaN : Bool, v1 = .bool yNaN ∧ (
  iteB xNaN (
  iteB yNaN (
  R (.int .i64 (0 : Int)) H2) (
  R (.int .i64 (-1 : Int)) H2)) (
  iteB yNaN (
  R (.int .i64 (1 : Int)) H2) (
  iteB (decide (x < y)) (
  R (.int .i64 (-1 : Int)) H2) (
  iteB (decide (x > y)) (
  R (.int .i64 (1 : Int)) H2) (
  R (.int .i64 (0 : Int)) H2))))))))

theorem F_cmp_Compare_int_eq (R : Value → Heap → Prop) (x : Int) (y : Int) (H : Heap) : wpF Tryd.prog Tryd.f40 [] [] [] [6] [.int .i64 x, .int .i64 y] H R = F_cmp_Compare_int R x y H := by kernel_rfl

theorem F_cmp_Compare_int_ok {R : Value → Heap → Prop} (x : Int) (y : Int) {H : Heap} (h : F_cmp_Compare_int R x y H) : CallsH Tryd.prog n_cmp_Compare_int #[.int .i64 x, .int .i64 y] H R :=
  wpF_ok Tryd.func40 (F_cmp_Compare_int_eq R x y H) h

/-! ### 41: platformfw/allocate.merged -/

def F_allocate_merged_k1 (I_ : Sl → Int → Heap → Prop) (M_ : Sl → Int → Heap → Nat) (result : Sl) (x : Int) (H3 : Heap) (k : Int) (x6 : Bool) (H6 : Heap) : Prop :=
  iteB x6 (
  0 ≤ k ∧ k < (result.n : Int) ∧ (unSome result.p (fun a3 =>
  ∃ x7 : Int, rd H6 ((a3.add (k.toNat * 2)).add 1) = some (.int .u64 x7) ∧ (
  ∃ x8 : Int, rd H6 (⟨H3.size, 0, none⟩ : Addr) = some (.int .u64 x8) ∧ (
  ∃ x9 : Int, rd H6 ((⟨H3.size, 0, none⟩ : Addr).add 1) = some (.int .u64 x9) ∧ (
  0 ≤ k ∧ k < (result.n : Int) ∧ (unSome result.p (fun a4 =>
  ∃ x10 : Int, rd H6 (a4.add (k.toNat * 2)) = some (.int .u64 x10) ∧ (
  0 ≤ k ∧ k < (result.n : Int) ∧ (unSome result.p (fun a5 =>
  okRow H6 ((a5.add (k.toNat * 2)).add 1) 1 ∧ (
  letH (wrs H6 ((a5.add (k.toNat * 2)).add 1) [.int .u64 (if (IntKind.u64.wrap ((IntKind.u64.wrap (x8 + x9)) - x10)) > x7 then (IntKind.u64.wrap ((IntKind.u64.wrap (x8 + x9)) - x10)) else x7)]) (fun H7 : Heap =>
  I_ result (IntKind.i64.wrap (x + (1 : Int))) H7 ∧ M_ result (IntKind.i64.wrap (x + (1 : Int))) H7 < M_ result x H3))))))))))))) (
  ∃ x11 : Int, rd H6 (⟨H3.size, 0, none⟩ : Addr) = some (.int .u64 x11) ∧ ∃ x12 : Int, rd H6 ((⟨H3.size, 0, none⟩ : Addr).add 1) = some (.int .u64 x12) ∧ (
  letH (H6.push (.cells #[.int .u64 x11, .int .u64 x12] t_api_Range (0, 0))) (fun H8 : Heap =>
  runH Tryd.prog (Builtin.append_ #[t_sl_api_Range, t_sl_api_Range] t_sl_api_Range #[.slice result.p result.n result.c, .slice (some (⟨H6.size, 0, none⟩ : Addr)) 1 1]) H8 (fun v2 H9 =>
  ∃ result1 : Sl, v2 = .slice result1.p result1.n result1.c ∧ (
  I_ result1 (IntKind.i64.wrap (x + (1 : Int))) H9 ∧ M_ result1 (IntKind.i64.wrap (x + (1 : Int))) H9 < M_ result x H3)))))

def F_allocate_merged_r2 (R : Value → Heap → Prop) (sorted : Sl) (I_ : Sl → Int → Heap → Prop) (M_ : Sl → Int → Heap → Nat) (result : Sl) (x : Int) (H3 : Heap) : Prop :=
  iteB (decide (x < (sorted.n : Int))) (
  0 ≤ x ∧ x < (sorted.n : Int) ∧ (unSome sorted.p (fun a =>
  ∃ x1 : Int, rd H3 (a.add (x.toNat * 2)) = some (.int .u64 x1) ∧ ∃ x2 : Int, rd H3 ((a.add (x.toNat * 2)).add 1) = some (.int .u64 x2) ∧ (
  letH (H3.push (.cells #[.int .u64 (0 : Int), .int .u64 (0 : Int)] t_api_Range (0, 0))) (fun H4 : Heap =>
  okRow H4 (⟨H3.size, 0, none⟩ : Addr) 2 ∧ (
  letH (wrs H4 (⟨H3.size, 0, none⟩ : Addr) [.int .u64 x1, .int .u64 x2]) (fun H5 : Heap =>
  letV (IntKind.i64.wrap ((result.n : Int) - (1 : Int))) (fun k : Int =>
  ∃ J_ : Bool → Heap → Prop, (
  iteB (decide (k ≥ (0 : Int))) (
  ∃ x3 : Int, rd H5 (⟨H3.size, 0, none⟩ : Addr) = some (.int .u64 x3) ∧ (
  0 ≤ k ∧ k < (result.n : Int) ∧ (unSome result.p (fun a1 =>
  ∃ x4 : Int, rd H5 (a1.add (k.toNat * 2)) = some (.int .u64 x4) ∧ (
  0 ≤ k ∧ k < (result.n : Int) ∧ (unSome result.p (fun a2 =>
  ∃ x5 : Int, rd H5 ((a2.add (k.toNat * 2)).add 1) = some (.int .u64 x5) ∧ (
  J_ (decide (x3 ≤ (IntKind.u64.wrap (x4 + x5)))) H5)))))))) (
  J_ false H5)) ∧ (∀ x6 : Bool, ∀ H6 : Heap, J_ x6 H6 → F_allocate_merged_k1 I_ M_ result x H3 k x6 H6))))))))) (
  R (.slice result.p result.n result.c) H3)

def F_allocate_merged (R : Value → Heap → Prop) (l : Sl) (H : Heap) : Prop :=
  CallsH Tryd.prog n_slices_Clone_sl_api_Range_api_Range #[.slice l.p l.n l.c] H (fun v H1 =>
  ∃ sorted : Sl, v = .slice sorted.p sorted.n sorted.c ∧ (
  CallsH Tryd.prog n_slices_SortFunc_sl_api_Range_api_Range #[.slice sorted.p sorted.n sorted.c, .func (.func 52) #[] #[]] H1 (fun v1 H2 =>
  v1 = .tuple #[] ∧ (
  ∃ I_ : Sl → Int → Heap → Prop, ∃ M_ : Sl → Int → Heap → Nat, I_ (Sl.mk none 0 0) (0 : Int) H2 ∧ (∀ result : Sl, ∀ x : Int, ∀ H3 : Heap, I_ result x H3 → F_allocate_merged_r2 R sorted I_ M_ result x H3)))))

theorem F_allocate_merged_eq (R : Value → Heap → Prop) (l : Sl) (H : Heap) : wpF Tryd.prog Tryd.f41 [(4, .slice none 0 0), (14, .int .i64 0), (38, .bool false)] [(9, [38], [4, 6, 7, 12, 13, 14])] [(5, [4, 14], [12, 13])] [6] [.slice l.p l.n l.c] H R = F_allocate_merged R l H := by kernel_rfl

theorem F_allocate_merged_ok {R : Value → Heap → Prop} (l : Sl) {H : Heap} (h : F_allocate_merged R l H) : CallsH Tryd.prog n_allocate_merged #[.slice l.p l.n l.c] H R :=
  wpF_ok Tryd.func41 (F_allocate_merged_eq R l H) h

/-! ### 42: platformfw/allocate.take -/

def F_allocate_take_k1 (R : Value → Heap → Prop) (l : Sl) (x : Int) (base : Int) (parts3 : Sl) (H9 : Heap) : Prop :=
  CallsH Tryd.prog n_slices_Replace_sl_api_Range_api_Range #[.slice l.p l.n l.c, .int .i64 x, .int .i64 (IntKind.i64.wrap (x + (1 : Int))), .slice parts3.p parts3.n parts3.c] H9 (fun v2 H10 =>
  ∃ x9 : Sl, v2 = .slice x9.p x9.n x9.c ∧ (
  R (.tuple #[.int .u64 base, .slice x9.p x9.n x9.c, .bool true]) H10))

def F_allocate_take_k2 (R : Value → Heap → Prop) (l : Sl) (size : Int) (x : Int) (base : Int) (endv : Int) (parts1 : Sl) (H6 : Heap) : Prop :=
  ∃ J_1 : Sl → Heap → Prop, (
  iteB (decide ((IntKind.u64.wrap (base + size)) < endv)) (
  letH (H6.push (.cells #[.int .u64 (IntKind.u64.wrap (base + size)), .int .u64 (IntKind.u64.wrap ((IntKind.u64.wrap (endv - base)) - size))] t_api_Range (0, 0))) (fun H7 : Heap =>
  runH Tryd.prog (Builtin.append_ #[t_sl_api_Range, t_sl_api_Range] t_sl_api_Range #[.slice parts1.p parts1.n parts1.c, .slice (some (⟨H6.size, 0, none⟩ : Addr)) 1 1]) H7 (fun v1 H8 =>
  ∃ parts2 : Sl, v1 = .slice parts2.p parts2.n parts2.c ∧ (
  J_1 parts2 H8)))) (
  J_1 parts1 H6)) ∧ (∀ parts3 : Sl, ∀ H9 : Heap, J_1 parts3 H9 → F_allocate_take_k1 R l x base parts3 H9)

def F_allocate_take_r3 (R : Value → Heap → Prop) (l : Sl) (k : Int) (size : Int) (I_ : Int → Heap → Prop) (M_ : Int → Heap → Nat) (x : Int) (H1 : Heap) : Prop :=
  iteB (decide (x < (l.n : Int))) (
  0 ≤ x ∧ x < (l.n : Int) ∧ (unSome l.p (fun a =>
  ∃ x1 : Int, rd H1 (a.add (x.toNat * 2)) = some (.int .u64 x1) ∧ ∃ x2 : Int, rd H1 ((a.add (x.toNat * 2)).add 1) = some (.int .u64 x2) ∧ (
  letH (H1.push (.cells #[.int .u64 (0 : Int), .int .u64 (0 : Int)] t_api_Range (0, 0))) (fun H2 : Heap =>
  okRow H2 (⟨H1.size, 0, none⟩ : Addr) 2 ∧ (
  letH (wrs H2 (⟨H1.size, 0, none⟩ : Addr) [.int .u64 x1, .int .u64 x2]) (fun H3 : Heap =>
  ∃ x3 : Int, rd H3 (⟨H1.size, 0, none⟩ : Addr) = some (.int .u64 x3) ∧ (
  0 ≤ k ∧ (
  0 ≤ k ∧ (
  letV (IntKind.u64.wrap (((IntKind.u64.wrap ((IntKind.u64.wrap (x3 + size)) - (1 : Int))).fdiv (2 ^ (min k.toNat IntKind.u64.bits))) * 2 ^ (min k.toNat IntKind.u64.bits))) (fun base : Int =>
  ∃ x4 : Int, rd H3 (⟨H1.size, 0, none⟩ : Addr) = some (.int .u64 x4) ∧ (
  ∃ x5 : Int, rd H3 ((⟨H1.size, 0, none⟩ : Addr).add 1) = some (.int .u64 x5) ∧ (
  letV (IntKind.u64.wrap (x4 + x5)) (fun endv : Int =>
  iteB (decide (base ≥ endv)) (
  I_ (IntKind.i64.wrap (x + (1 : Int))) H3 ∧ M_ (IntKind.i64.wrap (x + (1 : Int))) H3 < M_ x H1) (
  iteB (decide ((IntKind.u64.wrap (endv - base)) < size)) (
  I_ (IntKind.i64.wrap (x + (1 : Int))) H3 ∧ M_ (IntKind.i64.wrap (x + (1 : Int))) H3 < M_ x H1) (
  ∃ J_ : Sl → Heap → Prop, (
  ∃ x6 : Int, rd H3 (⟨H1.size, 0, none⟩ : Addr) = some (.int .u64 x6) ∧ (
  iteB (decide (base > x6)) (
  ∃ x7 : Int, rd H3 (⟨H1.size, 0, none⟩ : Addr) = some (.int .u64 x7) ∧ (
  ∃ x8 : Int, rd H3 (⟨H1.size, 0, none⟩ : Addr) = some (.int .u64 x8) ∧ (
  letH (H3.push (.cells #[.int .u64 x7, .int .u64 (IntKind.u64.wrap (base - x8))] t_api_Range (0, 0))) (fun H4 : Heap =>
  runH Tryd.prog (Builtin.append_ #[t_sl_api_Range, t_sl_api_Range] t_sl_api_Range #[.slice none 0 0, .slice (some (⟨H3.size, 0, none⟩ : Addr)) 1 1]) H4 (fun v H5 =>
  ∃ parts : Sl, v = .slice parts.p parts.n parts.c ∧ (
  J_ parts H5)))))) (
  J_ (Sl.mk none 0 0) H3))) ∧ (∀ parts1 : Sl, ∀ H6 : Heap, J_ parts1 H6 → F_allocate_take_k2 R l size x base endv parts1 H6))))))))))))))))) (
  R (.tuple #[.int .u64 (0 : Int), .slice l.p l.n l.c, .bool false]) H1)

def F_allocate_take (R : Value → Heap → Prop) (l : Sl) (k : Int) (H : Heap) : Prop :=
  0 ≤ k ∧ (
  letV (IntKind.u64.wrap ((1 : Int) * 2 ^ (min k.toNat IntKind.u64.bits))) (fun size : Int =>
  ∃ I_ : Int → Heap → Prop, ∃ M_ : Int → Heap → Nat, I_ (0 : Int) H ∧ (∀ x : Int, ∀ H1 : Heap, I_ x H1 → F_allocate_take_r3 R l k size I_ M_ x H1)))

theorem F_allocate_take_eq (R : Value → Heap → Prop) (l : Sl) (k : Int) (H : Heap) : wpF Tryd.prog Tryd.f42 [(12, .slice none 0 0), (17, .int .i64 0)] [(11, [12], [0, 7, 8, 10, 11]), (13, [12], [0, 8, 10])] [(3, [17], [0, 1, 7, 15, 16])] [6] [.slice l.p l.n l.c, .int .i64 k] H R = F_allocate_take R l k H := by kernel_rfl

theorem F_allocate_take_ok {R : Value → Heap → Prop} (l : Sl) (k : Int) {H : Heap} (h : F_allocate_take R l k H) : CallsH Tryd.prog n_allocate_take #[.slice l.p l.n l.c, .int .i64 k] H R :=
  wpF_ok Tryd.func42 (F_allocate_take_eq R l k H) h

/-! ### 43: platformfw/allocate.certificate -/

def F_allocate_certificate_r1 (R : Value → Heap → Prop) (H : Heap) (l : Sl) (sizes : Sl) (I_ : Int → Heap → Prop) (M_ : Int → Heap → Nat) (k : Int) (H2 : Heap) : Prop :=
  iteB (decide (k ≥ (0 : Int))) (
  CallsH Tryd.prog n_allocate_demand #[.slice sizes.p sizes.n sizes.c, .int .i64 k] H2 (fun v H3 =>
  ∃ need : Int, v = .int .u64 need ∧ (
  CallsH Tryd.prog n_allocate_countBlocks #[.slice l.p l.n l.c, .int .i64 k] H3 (fun v1 H4 =>
  ∃ blocks : Int, v1 = .int .u64 blocks ∧ (
  0 ≤ k ∧ (
  iteB (decide (need > (IntKind.u64.wrap (blocks * 2 ^ (min k.toNat IntKind.u64.bits))))) (
  okRow H4 (⟨H.size, 0, none⟩ : Addr) 4 ∧ (
  letH (wrs H4 (⟨H.size, 0, none⟩ : Addr) [.int .i64 (0 : Int), .int .i64 k, .int .u64 need, .int .u64 blocks]) (fun H5 : Heap =>
  ∃ r : Int, rd H5 (⟨H.size, 0, none⟩ : Addr) = some (.int .i64 r) ∧ ∃ r1 : Int, rd H5 ((⟨H.size, 0, none⟩ : Addr).add 1) = some (.int .i64 r1) ∧ ∃ r2 : Int, rd H5 ((⟨H.size, 0, none⟩ : Addr).add 2) = some (.int .u64 r2) ∧ ∃ r3 : Int, rd H5 ((⟨H.size, 0, none⟩ : Addr).add 3) = some (.int .u64 r3) ∧ (
  R (.agg #[.int .i64 r, .int .i64 r1, .int .u64 r2, .int .u64 r3]) H5)))) (
  letV (IntKind.i64.wrap (k - (1 : Int))) (fun k1 : Int =>
  I_ k1 H4 ∧ M_ k1 H4 < M_ k H2)))))))) (
  okRow H2 (⟨H.size, 0, none⟩ : Addr) 4 ∧ (
  letH (wrs H2 (⟨H.size, 0, none⟩ : Addr) [.int .i64 (0 : Int), .int .i64 (0 : Int), .int .u64 (0 : Int), .int .u64 (0 : Int)]) (fun H6 : Heap =>
  ∃ r4 : Int, rd H6 (⟨H.size, 0, none⟩ : Addr) = some (.int .i64 r4) ∧ ∃ r5 : Int, rd H6 ((⟨H.size, 0, none⟩ : Addr).add 1) = some (.int .i64 r5) ∧ ∃ r6 : Int, rd H6 ((⟨H.size, 0, none⟩ : Addr).add 2) = some (.int .u64 r6) ∧ ∃ r7 : Int, rd H6 ((⟨H.size, 0, none⟩ : Addr).add 3) = some (.int .u64 r7) ∧ (
  R (.agg #[.int .i64 r4, .int .i64 r5, .int .u64 r6, .int .u64 r7]) H6))))

def F_allocate_certificate (R : Value → Heap → Prop) (l : Sl) (sizes : Sl) (H : Heap) : Prop :=
  letH (H.push (.cells #[.int .i64 (0 : Int), .int .i64 (0 : Int), .int .u64 (0 : Int), .int .u64 (0 : Int)] t_api_Certificate (0, 0))) (fun H1 : Heap =>
  ∃ I_ : Int → Heap → Prop, ∃ M_ : Int → Heap → Nat, I_ (52 : Int) H1 ∧ (∀ k : Int, ∀ H2 : Heap, I_ k H2 → F_allocate_certificate_r1 R H l sizes I_ M_ k H2))

theorem F_allocate_certificate_eq (R : Value → Heap → Prop) (l : Sl) (sizes : Sl) (H : Heap) : wpF Tryd.prog Tryd.f43 [(5, .int .i64 0)] [] [(2, [5], [0, 1, 4])] [6] [.slice l.p l.n l.c, .slice sizes.p sizes.n sizes.c] H R = F_allocate_certificate R l sizes H := by kernel_rfl

theorem F_allocate_certificate_ok {R : Value → Heap → Prop} (l : Sl) (sizes : Sl) {H : Heap} (h : F_allocate_certificate R l sizes H) : CallsH Tryd.prog n_allocate_certificate #[.slice l.p l.n l.c, .slice sizes.p sizes.n sizes.c] H R :=
  wpF_ok Tryd.func43 (F_allocate_certificate_eq R l sizes H) h

/-! ### 44: platformfw/pciconf.registers -/

def F_pciconf_registers (R : Value → Heap → Prop) (bridge : Bool) (H : Heap) : Prop :=
  iteB bridge (
  R (.int .i64 (2 : Int)) H) (
  R (.int .i64 (6 : Int)) H)

theorem F_pciconf_registers_eq (R : Value → Heap → Prop) (bridge : Bool) (H : Heap) : wpF Tryd.prog Tryd.f44 [] [] [] [6] [.bool bridge] H R = F_pciconf_registers R bridge H := by kernel_rfl

theorem F_pciconf_registers_ok {R : Value → Heap → Prop} (bridge : Bool) {H : Heap} (h : F_pciconf_registers R bridge H) : CallsH Tryd.prog n_pciconf_registers #[.bool bridge] H R :=
  wpF_ok Tryd.func44 (F_pciconf_registers_eq R bridge H) h

/-! ### 45: platformfw/pciconf.validBar -/

def F_pciconf_validBar_k1 (R : Value → Heap → Prop) (l : Sl) (i : Int) (size : Int) (x1 : Bool) (H1 : Heap) : Prop :=
  iteB x1 (
  iteB (decide (size ≥ (4 : Int))) (
  iteB (decide (size ≤ (40 : Int))) (
  iteB (decide ((IntKind.i64.wrap (i + (1 : Int))) < (l.n : Int))) (
  0 ≤ (IntKind.i64.wrap (i + (1 : Int))) ∧ (IntKind.i64.wrap (i + (1 : Int))) < (l.n : Int) ∧ (unSome l.p (fun a2 =>
  ∃ x2 : Int, rd H1 (a2.add ((IntKind.i64.wrap (i + (1 : Int))).toNat * 2)) = some (.int .i64 x2) ∧ (
  R (.bool (x2 == (0 : Int))) H1)))) (
  R (.bool false) H1)) (
  R (.bool false) H1)) (
  R (.bool false) H1)) (
  R (.bool false) H1)

def F_pciconf_validBar (R : Value → Heap → Prop) (l : Sl) (i : Int) (H : Heap) : Prop :=
  0 ≤ i ∧ i < (l.n : Int) ∧ (unSome l.p (fun a =>
  ∃ size : Int, rd H ((a.add (i.toNat * 2)).add 1) = some (.int .i64 size) ∧ (
  0 ≤ i ∧ i < (l.n : Int) ∧ (unSome l.p (fun a1 =>
  ∃ x : Int, rd H (a1.add (i.toNat * 2)) = some (.int .i64 x) ∧ (
  iteB (x == (0 : Int)) (
  R (.bool (size == (0 : Int))) H) (
  iteB (x == (1 : Int)) (
  iteB (decide (size ≥ (2 : Int))) (
  R (.bool (decide (size ≤ (8 : Int)))) H) (
  R (.bool false) H)) (
  iteB (x == (2 : Int)) (
  iteB (decide (size ≥ (4 : Int))) (
  R (.bool (decide (size ≤ (31 : Int)))) H) (
  R (.bool false) H)) (
  ∃ J_ : Bool → Heap → Prop, (
  iteB (x == (3 : Int)) (
  J_ true H) (
  J_ (x == (4 : Int)) H)) ∧ (∀ x1 : Bool, ∀ H1 : Heap, J_ x1 H1 → F_pciconf_validBar_k1 R l i size x1 H1))))))))))

theorem F_pciconf_validBar_eq (R : Value → Heap → Prop) (l : Sl) (i : Int) (H : Heap) : wpF Tryd.prog Tryd.f45 [(36, .bool false)] [(11, [36], [0, 1, 5])] [] [6] [.slice l.p l.n l.c, .int .i64 i] H R = F_pciconf_validBar R l i H := by kernel_rfl

theorem F_pciconf_validBar_ok {R : Value → Heap → Prop} (l : Sl) (i : Int) {H : Heap} (h : F_pciconf_validBar R l i H) : CallsH Tryd.prog n_pciconf_validBar #[.slice l.p l.n l.c, .int .i64 i] H R :=
  wpF_ok Tryd.func45 (F_pciconf_validBar_eq R l i H) h

/-! ### 46: platformfw/platformfwref18.Registers -/

def F_ref18_Registers (R : Value → Heap → Prop) (f_0 : Int) (f_1 : Int) (f_2 : Int) (f_3 : Int) (f_4 : Bool) (f_5 : Bool) (f_6 : Bool) (f_7 : Int) (f_8 : Int) (f_9 : Int) (f_10 : Sl) (H : Heap) : Prop :=
  letH (H.push (.cells #[.int .i64 f_0, .int .i64 f_1, .int .i64 f_2, .int .i64 f_3, .bool f_4, .bool f_5, .bool f_6, .int .i64 f_7, .int .i64 f_8, .int .i64 f_9, .slice f_10.p f_10.n f_10.c] t_api_Function (0, 0))) (fun H1 : Heap =>
  ∃ x : Bool, rd H1 ((⟨H.size, 0, none⟩ : Addr).add 4) = some (.bool x) ∧ (
  iteB x (
  R (.int .i64 (2 : Int)) H1) (
  R (.int .i64 (6 : Int)) H1)))

theorem F_ref18_Registers_eq (R : Value → Heap → Prop) (f_0 : Int) (f_1 : Int) (f_2 : Int) (f_3 : Int) (f_4 : Bool) (f_5 : Bool) (f_6 : Bool) (f_7 : Int) (f_8 : Int) (f_9 : Int) (f_10 : Sl) (H : Heap) : wpF Tryd.prog Tryd.f46 [] [] [] [6] [.agg #[.int .i64 f_0, .int .i64 f_1, .int .i64 f_2, .int .i64 f_3, .bool f_4, .bool f_5, .bool f_6, .int .i64 f_7, .int .i64 f_8, .int .i64 f_9, .slice f_10.p f_10.n f_10.c]] H R = F_ref18_Registers R f_0 f_1 f_2 f_3 f_4 f_5 f_6 f_7 f_8 f_9 f_10 H := by kernel_rfl

theorem F_ref18_Registers_ok {R : Value → Heap → Prop} (f_0 : Int) (f_1 : Int) (f_2 : Int) (f_3 : Int) (f_4 : Bool) (f_5 : Bool) (f_6 : Bool) (f_7 : Int) (f_8 : Int) (f_9 : Int) (f_10 : Sl) {H : Heap} (h : F_ref18_Registers R f_0 f_1 f_2 f_3 f_4 f_5 f_6 f_7 f_8 f_9 f_10 H) : CallsH Tryd.prog n_ref18_Registers #[.agg #[.int .i64 f_0, .int .i64 f_1, .int .i64 f_2, .int .i64 f_3, .bool f_4, .bool f_5, .bool f_6, .int .i64 f_7, .int .i64 f_8, .int .i64 f_9, .slice f_10.p f_10.n f_10.c]] H R :=
  wpF_ok Tryd.func46 (F_ref18_Registers_eq R f_0 f_1 f_2 f_3 f_4 f_5 f_6 f_7 f_8 f_9 f_10 H) h

/-! ### 47: platformfw/platformfwref21.ValidRanges -/

def F_ref21_ValidRanges_r1 (R : Value → Heap → Prop) (l : Sl) (I_ : Int → Heap → Prop) (M_ : Int → Heap → Nat) (i : Int) (H1 : Heap) : Prop :=
  iteB (decide (i < (l.n : Int))) (
  0 ≤ i ∧ i < (l.n : Int) ∧ (unSome l.p (fun a =>
  ∃ x : Int, rd H1 ((a.add (i.toNat * 2)).add 1) = some (.int .u64 x) ∧ (
  iteB (decide (x < (1 : Int))) (
  R (.bool false) H1) (
  0 ≤ i ∧ i < (l.n : Int) ∧ (unSome l.p (fun a1 =>
  ∃ x1 : Int, rd H1 ((a1.add (i.toNat * 2)).add 1) = some (.int .u64 x1) ∧ (
  iteB (decide (x1 > (4503599627370496 : Int))) (
  R (.bool false) H1) (
  0 ≤ i ∧ i < (l.n : Int) ∧ (unSome l.p (fun a2 =>
  ∃ x2 : Int, rd H1 (a2.add (i.toNat * 2)) = some (.int .u64 x2) ∧ (
  0 ≤ i ∧ i < (l.n : Int) ∧ (unSome l.p (fun a3 =>
  ∃ x3 : Int, rd H1 ((a3.add (i.toNat * 2)).add 1) = some (.int .u64 x3) ∧ (
  iteB (decide (x2 > (IntKind.u64.wrap ((4503599627370496 : Int) - x3)))) (
  R (.bool false) H1) (
  letV (IntKind.i64.wrap (i + (1 : Int))) (fun i1 : Int =>
  I_ i1 H1 ∧ M_ i1 H1 < M_ i H1))))))))))))))))) (
  R (.bool true) H1)

def F_ref21_ValidRanges (R : Value → Heap → Prop) (l : Sl) (H : Heap) : Prop :=
  iteB (decide ((l.n : Int) > (1024 : Int))) (
  R (.bool false) H) (
  ∃ I_ : Int → Heap → Prop, ∃ M_ : Int → Heap → Nat, I_ (0 : Int) H ∧ (∀ i : Int, ∀ H1 : Heap, I_ i H1 → F_ref21_ValidRanges_r1 R l I_ M_ i H1))

theorem F_ref21_ValidRanges_eq (R : Value → Heap → Prop) (l : Sl) (H : Heap) : wpF Tryd.prog Tryd.f47 [(3, .int .i64 0)] [] [(4, [3], [0])] [6] [.slice l.p l.n l.c] H R = F_ref21_ValidRanges R l H := by kernel_rfl

theorem F_ref21_ValidRanges_ok {R : Value → Heap → Prop} (l : Sl) {H : Heap} (h : F_ref21_ValidRanges R l H) : CallsH Tryd.prog n_ref21_ValidRanges #[.slice l.p l.n l.c] H R :=
  wpF_ok Tryd.func47 (F_ref21_ValidRanges_eq R l H) h

/-! ### 48: slices.stableCmpFunc[int] -/

def F_slices_stableCmpFunc_int_r1 (data : Sl) (n : Int) (cap : Addr) (I_1 : Int → Heap → Prop) (M_1 : Int → Heap → Nat) (blockSize : Int) (H4 : Heap) (I_2 : Int → Int → Heap → Prop) (M_2 : Int → Int → Heap → Nat) (a1 : Int) (b3 : Int) (H5 : Heap) : Prop :=
  iteB (decide (b3 ≤ n)) (
  CallsH Tryd.prog n_slices_symMergeCmpFunc_int #[.slice data.p data.n data.c, .int .i64 a1, .int .i64 (IntKind.i64.wrap (a1 + blockSize)), .int .i64 b3, .func (.func 39) #[] #[.pointer (some cap)]] H5 (fun v2 H6 =>
  v2 = .tuple #[] ∧ (
  letV (IntKind.i64.wrap (b3 + (IntKind.i64.wrap ((2 : Int) * blockSize)))) (fun b4 : Int =>
  I_2 b3 b4 H6 ∧ M_2 b3 b4 H6 < M_2 a1 b3 H5)))) (
  letV (IntKind.i64.wrap (a1 + blockSize)) (fun m : Int =>
  iteB (decide (m < n)) (
  CallsH Tryd.prog n_slices_symMergeCmpFunc_int #[.slice data.p data.n data.c, .int .i64 a1, .int .i64 m, .int .i64 n, .func (.func 39) #[] #[.pointer (some cap)]] H5 (fun v3 H7 =>
  v3 = .tuple #[] ∧ (
  letV (IntKind.i64.wrap (blockSize * (2 : Int))) (fun blockSize1 : Int =>
  I_1 blockSize1 H7 ∧ M_1 blockSize1 H7 < M_1 blockSize H4)))) (
  letV (IntKind.i64.wrap (blockSize * (2 : Int))) (fun blockSize2 : Int =>
  I_1 blockSize2 H5 ∧ M_1 blockSize2 H5 < M_1 blockSize H4))))

def F_slices_stableCmpFunc_int_r2 (R : Value → Heap → Prop) (data : Sl) (n : Int) (cap : Addr) (I_1 : Int → Heap → Prop) (M_1 : Int → Heap → Nat) (blockSize : Int) (H4 : Heap) : Prop :=
  iteB (decide (blockSize < n)) (
  letV (IntKind.i64.wrap ((2 : Int) * blockSize)) (fun b2 : Int =>
  ∃ I_2 : Int → Int → Heap → Prop, ∃ M_2 : Int → Int → Heap → Nat, I_2 (0 : Int) b2 H4 ∧ (∀ a1 : Int, ∀ b3 : Int, ∀ H5 : Heap, I_2 a1 b3 H5 → F_slices_stableCmpFunc_int_r1 data n cap I_1 M_1 blockSize H4 I_2 M_2 a1 b3 H5))) (
  R (.tuple #[]) H4)

def F_slices_stableCmpFunc_int_r3 (R : Value → Heap → Prop) (data : Sl) (n : Int) (cap : Addr) (I_ : Int → Int → Heap → Prop) (M_ : Int → Int → Heap → Nat) (a : Int) (b : Int) (H1 : Heap) : Prop :=
  iteB (decide (b ≤ n)) (
  CallsH Tryd.prog n_slices_insertionSortCmpFunc_int #[.slice data.p data.n data.c, .int .i64 a, .int .i64 b, .func (.func 39) #[] #[.pointer (some cap)]] H1 (fun v H2 =>
  v = .tuple #[] ∧ (
  letV (IntKind.i64.wrap (b + (20 : Int))) (fun b1 : Int =>
  I_ b b1 H2 ∧ M_ b b1 H2 < M_ a b H1)))) (
  CallsH Tryd.prog n_slices_insertionSortCmpFunc_int #[.slice data.p data.n data.c, .int .i64 a, .int .i64 n, .func (.func 39) #[] #[.pointer (some cap)]] H1 (fun v1 H3 =>
  v1 = .tuple #[] ∧ (
  ∃ I_1 : Int → Heap → Prop, ∃ M_1 : Int → Heap → Nat, I_1 (20 : Int) H3 ∧ (∀ blockSize : Int, ∀ H4 : Heap, I_1 blockSize H4 → F_slices_stableCmpFunc_int_r2 R data n cap I_1 M_1 blockSize H4))))

def F_slices_stableCmpFunc_int (R : Value → Heap → Prop) (data : Sl) (n : Int) (cap : Addr) (H : Heap) : Prop :=
  ∃ I_ : Int → Int → Heap → Prop, ∃ M_ : Int → Int → Heap → Nat, I_ (0 : Int) (20 : Int) H ∧ (∀ a : Int, ∀ b : Int, ∀ H1 : Heap, I_ a b H1 → F_slices_stableCmpFunc_int_r3 R data n cap I_ M_ a b H1)

theorem F_slices_stableCmpFunc_int_eq (R : Value → Heap → Prop) (data : Sl) (n : Int) (cap : Addr) (H : Heap) : wpF Tryd.prog Tryd.f48 [(6, .int .i64 0), (7, .int .i64 0), (8, .int .i64 0)] [] [(2, [7, 8], [0, 1, 2, 6]), (7, [6], [0, 1, 2]), (9, [7, 8], [0, 1, 2, 6])] [6] [.slice data.p data.n data.c, .int .i64 n, .func (.func 39) #[] #[.pointer (some cap)]] H R = F_slices_stableCmpFunc_int R data n cap H := by kernel_rfl

theorem F_slices_stableCmpFunc_int_ok {R : Value → Heap → Prop} (data : Sl) (n : Int) (cap : Addr) {H : Heap} (h : F_slices_stableCmpFunc_int R data n cap H) : CallsH Tryd.prog n_slices_stableCmpFunc_int #[.slice data.p data.n data.c, .int .i64 n, .func (.func 39) #[] #[.pointer (some cap)]] H R :=
  wpF_ok Tryd.func48 (F_slices_stableCmpFunc_int_eq R data n cap H) h

/-! ### 49: cmp.isNaN[int] -/

def F_cmp_isNaN_int (R : Value → Heap → Prop) (x : Int) (H : Heap) : Prop :=
  R (.bool (x != x)) H

theorem F_cmp_isNaN_int_eq (R : Value → Heap → Prop) (x : Int) (H : Heap) : wpF Tryd.prog Tryd.f49 [] [] [] [6] [.int .i64 x] H R = F_cmp_isNaN_int R x H := by kernel_rfl

theorem F_cmp_isNaN_int_ok {R : Value → Heap → Prop} (x : Int) {H : Heap} (h : F_cmp_isNaN_int R x H) : CallsH Tryd.prog n_cmp_isNaN_int #[.int .i64 x] H R :=
  wpF_ok Tryd.func49 (F_cmp_isNaN_int_eq R x H) h

/-! ### 50: slices.Clone[[]platformfw/api.Range,platformfw/api.Range] -/

def F_slices_Clone_sl_api_Range_api_Range (R : Value → Heap → Prop) (s : Sl) (H : Heap) : Prop :=
  iteB s.p.isNone (
  R (.slice none 0 0) H) (
  letH (H.push (.cells #[] t_api_Range (0, 0))) (fun H1 : Heap =>
  runH Tryd.prog (Builtin.append_ #[t_sl_api_Range, t_sl_api_Range] t_sl_api_Range #[.slice (some (⟨H.size, 0, none⟩ : Addr)) 0 0, .slice s.p s.n s.c]) H1 (fun v H2 =>
  ∃ x : Sl, v = .slice x.p x.n x.c ∧ (
  R (.slice x.p x.n x.c) H2))))

theorem F_slices_Clone_sl_api_Range_api_Range_eq (R : Value → Heap → Prop) (s : Sl) (H : Heap) : wpF Tryd.prog Tryd.f50 [] [] [] [6] [.slice s.p s.n s.c] H R = F_slices_Clone_sl_api_Range_api_Range R s H := by kernel_rfl

theorem F_slices_Clone_sl_api_Range_api_Range_ok {R : Value → Heap → Prop} (s : Sl) {H : Heap} (h : F_slices_Clone_sl_api_Range_api_Range R s H) : CallsH Tryd.prog n_slices_Clone_sl_api_Range_api_Range #[.slice s.p s.n s.c] H R :=
  wpF_ok Tryd.func50 (F_slices_Clone_sl_api_Range_api_Range_eq R s H) h

/-! ### 53: cmp.Compare[uint64] -/

def F_cmp_Compare_uint64 (R : Value → Heap → Prop) (x : Int) (y : Int) (H : Heap) : Prop :=
  CallsH Tryd.prog n_cmp_isNaN_uint64 #[.int .u64 x] H (fun v H1 =>
  ∃ xNaN : Bool, v = .bool xNaN ∧ (
  CallsH Tryd.prog n_cmp_isNaN_uint64 #[.int .u64 y] H1 (fun v1 H2 =>
  ∃ yNaN : Bool, v1 = .bool yNaN ∧ (
  iteB xNaN (
  iteB yNaN (
  R (.int .i64 (0 : Int)) H2) (
  R (.int .i64 (-1 : Int)) H2)) (
  iteB yNaN (
  R (.int .i64 (1 : Int)) H2) (
  iteB (decide (x < y)) (
  R (.int .i64 (-1 : Int)) H2) (
  iteB (decide (x > y)) (
  R (.int .i64 (1 : Int)) H2) (
  R (.int .i64 (0 : Int)) H2))))))))

theorem F_cmp_Compare_uint64_eq (R : Value → Heap → Prop) (x : Int) (y : Int) (H : Heap) : wpF Tryd.prog Tryd.f53 [] [] [] [6] [.int .u64 x, .int .u64 y] H R = F_cmp_Compare_uint64 R x y H := by kernel_rfl

theorem F_cmp_Compare_uint64_ok {R : Value → Heap → Prop} (x : Int) (y : Int) {H : Heap} (h : F_cmp_Compare_uint64 R x y H) : CallsH Tryd.prog n_cmp_Compare_uint64 #[.int .u64 x, .int .u64 y] H R :=
  wpF_ok Tryd.func53 (F_cmp_Compare_uint64_eq R x y H) h

/-! ### 54: slices.Replace[[]platformfw/api.Range,platformfw/api.Range] -/

def F_slices_Replace_sl_api_Range_api_Range (R : Value → Heap → Prop) (s : Sl) (i : Int) (j : Int) (v : Sl) (H : Heap) : Prop :=
  0 ≤ j ∧ j ≤ (s.c : Int) ∧ (
  0 ≤ i ∧ i ≤ (j.toNat : Int) ∧ (
  iteB (i == j) (
  CallsH Tryd.prog n_slices_Insert_sl_api_Range_api_Range #[.slice s.p s.n s.c, .int .i64 i, .slice v.p v.n v.c] H (fun v1 H1 =>
  ∃ x : Sl, v1 = .slice x.p x.n x.c ∧ (
  R (.slice x.p x.n x.c) H1))) (
  iteB (j == (s.n : Int)) (
  0 ≤ i ∧ i ≤ (s.c : Int) ∧ (
  runH Tryd.prog (Builtin.append_ #[t_sl_api_Range, t_sl_api_Range] t_sl_api_Range #[.slice (slP s.p s.c 0 2) (i.toNat - 0) (s.c - 0), .slice v.p v.n v.c]) H (fun v2 H2 =>
  ∃ s2 : Sl, v2 = .slice s2.p s2.n s2.c ∧ (
  iteB (decide ((s2.n : Int) < (s.n : Int))) (
  0 ≤ (s2.n : Int) ∧ (s2.n : Int) ≤ (s.n : Int) ∧ (
  runH Tryd.prog (Builtin.clear_ #[t_sl_api_Range] 0 #[.slice (slP s.p s.c ((s2.n : Int).toNat) 2) (s.n - (s2.n : Int).toNat) (s.c - (s2.n : Int).toNat)]) H2 (fun v3 H3 =>
  v3 = .tuple #[] ∧ (
  R (.slice s2.p s2.n s2.c) H3)))) (
  R (.slice s2.p s2.n s2.c) H2))))) (
  0 ≤ i ∧ i ≤ (s.c : Int) ∧ (
  0 ≤ j ∧ j ≤ (s.n : Int) ∧ (
  letV (IntKind.i64.wrap ((IntKind.i64.wrap ((((i.toNat - 0) : Nat) : Int) + (v.n : Int))) + (((s.n - j.toNat) : Nat) : Int))) (fun tot : Int =>
  iteB (decide (tot > (s.c : Int))) (
  0 ≤ i ∧ i ≤ (s.c : Int) ∧ (
  runH Tryd.prog (Builtin.append_ #[t_sl_api_Range, t_int] t_sl_api_Range #[.slice (slP s.p s.c 0 2) (i.toNat - 0) (s.c - 0), .int .i64 (IntKind.i64.wrap (tot - i))]) H (fun v4 H4 =>
  ∃ s21 : Sl, v4 = .slice s21.p s21.n s21.c ∧ (
  0 ≤ i ∧ i ≤ (s21.n : Int) ∧ (
  runH Tryd.prog (Builtin.copy_ #[t_sl_api_Range, t_sl_api_Range] t_int #[.slice (slP s21.p s21.c i.toNat 2) (s21.n - i.toNat) (s21.c - i.toNat), .slice v.p v.n v.c]) H4 (fun v5 H5 =>
  ∃ x1 : Int, v5 = .int .i64 x1 ∧ (
  0 ≤ (IntKind.i64.wrap (i + (v.n : Int))) ∧ (IntKind.i64.wrap (i + (v.n : Int))) ≤ (s21.n : Int) ∧ (
  0 ≤ j ∧ j ≤ (s.n : Int) ∧ (
  runH Tryd.prog (Builtin.copy_ #[t_sl_api_Range, t_sl_api_Range] t_int #[.slice (slP s21.p s21.c ((IntKind.i64.wrap (i + (v.n : Int))).toNat) 2) (s21.n - (IntKind.i64.wrap (i + (v.n : Int))).toNat) (s21.c - (IntKind.i64.wrap (i + (v.n : Int))).toNat), .slice (slP s.p s.c j.toNat 2) (s.n - j.toNat) (s.c - j.toNat)]) H5 (fun v6 H6 =>
  ∃ x2 : Int, v6 = .int .i64 x2 ∧ (
  R (.slice s21.p s21.n s21.c) H6))))))))))) (
  0 ≤ tot ∧ tot ≤ (s.c : Int) ∧ (
  iteB (decide ((IntKind.i64.wrap (i + (v.n : Int))) ≤ j)) (
  0 ≤ i ∧ i ≤ (((tot.toNat - 0) : Nat) : Int) ∧ (
  runH Tryd.prog (Builtin.copy_ #[t_sl_api_Range, t_sl_api_Range] t_int #[.slice (slP (slP s.p s.c 0 2) (s.c - 0) i.toNat 2) ((tot.toNat - 0) - i.toNat) ((s.c - 0) - i.toNat), .slice v.p v.n v.c]) H (fun v7 H7 =>
  ∃ x3 : Int, v7 = .int .i64 x3 ∧ (
  0 ≤ (IntKind.i64.wrap (i + (v.n : Int))) ∧ (IntKind.i64.wrap (i + (v.n : Int))) ≤ (((tot.toNat - 0) : Nat) : Int) ∧ (
  0 ≤ j ∧ j ≤ (s.n : Int) ∧ (
  runH Tryd.prog (Builtin.copy_ #[t_sl_api_Range, t_sl_api_Range] t_int #[.slice (slP (slP s.p s.c 0 2) (s.c - 0) ((IntKind.i64.wrap (i + (v.n : Int))).toNat) 2) ((tot.toNat - 0) - (IntKind.i64.wrap (i + (v.n : Int))).toNat) ((s.c - 0) - (IntKind.i64.wrap (i + (v.n : Int))).toNat), .slice (slP s.p s.c j.toNat 2) (s.n - j.toNat) (s.c - j.toNat)]) H7 (fun v8 H8 =>
  ∃ x4 : Int, v8 = .int .i64 x4 ∧ (
  0 ≤ tot ∧ tot ≤ (s.n : Int) ∧ (
  runH Tryd.prog (Builtin.clear_ #[t_sl_api_Range] 0 #[.slice (slP s.p s.c tot.toNat 2) (s.n - tot.toNat) (s.c - tot.toNat)]) H8 (fun v9 H9 =>
  v9 = .tuple #[] ∧ (
  R (.slice (slP s.p s.c 0 2) (tot.toNat - 0) (s.c - 0)) H9))))))))))) (
  0 ≤ (IntKind.i64.wrap (i + (v.n : Int))) ∧ (IntKind.i64.wrap (i + (v.n : Int))) ≤ (((tot.toNat - 0) : Nat) : Int) ∧ (
  runH Tryd.prog (callFunc n_slices_overlaps_api_Range #[.slice (slP (slP s.p s.c 0 2) (s.c - 0) ((IntKind.i64.wrap (i + (v.n : Int))).toNat) 2) ((tot.toNat - 0) - (IntKind.i64.wrap (i + (v.n : Int))).toNat) ((s.c - 0) - (IntKind.i64.wrap (i + (v.n : Int))).toNat), .slice v.p v.n v.c]) H (fun nx H10 => nextV nx (fun v10 =>
  ∃ x5 : Bool, v10 = .bool x5 ∧ (
  iteB (!x5) (
  0 ≤ (IntKind.i64.wrap (i + (v.n : Int))) ∧ (IntKind.i64.wrap (i + (v.n : Int))) ≤ (((tot.toNat - 0) : Nat) : Int) ∧ (
  0 ≤ j ∧ j ≤ (s.n : Int) ∧ (
  runH Tryd.prog (Builtin.copy_ #[t_sl_api_Range, t_sl_api_Range] t_int #[.slice (slP (slP s.p s.c 0 2) (s.c - 0) ((IntKind.i64.wrap (i + (v.n : Int))).toNat) 2) ((tot.toNat - 0) - (IntKind.i64.wrap (i + (v.n : Int))).toNat) ((s.c - 0) - (IntKind.i64.wrap (i + (v.n : Int))).toNat), .slice (slP s.p s.c j.toNat 2) (s.n - j.toNat) (s.c - j.toNat)]) H10 (fun v11 H11 =>
  ∃ x6 : Int, v11 = .int .i64 x6 ∧ (
  0 ≤ i ∧ i ≤ (((tot.toNat - 0) : Nat) : Int) ∧ (
  runH Tryd.prog (Builtin.copy_ #[t_sl_api_Range, t_sl_api_Range] t_int #[.slice (slP (slP s.p s.c 0 2) (s.c - 0) i.toNat 2) ((tot.toNat - 0) - i.toNat) ((s.c - 0) - i.toNat), .slice v.p v.n v.c]) H11 (fun v12 H12 =>
  ∃ x7 : Int, v12 = .int .i64 x7 ∧ (
  R (.slice (slP s.p s.c 0 2) (tot.toNat - 0) (s.c - 0)) H12)))))))) (
  letV (IntKind.i64.wrap ((v.n : Int) - (IntKind.i64.wrap (j - i)))) (fun y : Int =>
  0 ≤ j ∧ j ≤ (((s.c - 0) : Nat) : Int) ∧ (
  0 ≤ i ∧ i ≤ (j.toNat : Int) ∧ (
  runH Tryd.prog (callFunc n_slices_overlaps_api_Range #[.slice (slP (slP s.p s.c 0 2) (s.c - 0) i.toNat 2) (j.toNat - i.toNat) ((s.c - 0) - i.toNat), .slice v.p v.n v.c]) H10 (fun nx1 H13 => nextV nx1 (fun v13 =>
  ∃ x8 : Bool, v13 = .bool x8 ∧ (
  iteB (!x8) (
  0 ≤ j ∧ j ≤ (((s.c - 0) : Nat) : Int) ∧ (
  0 ≤ i ∧ i ≤ (j.toNat : Int) ∧ (
  0 ≤ y ∧ y ≤ (v.n : Int) ∧ (
  runH Tryd.prog (Builtin.copy_ #[t_sl_api_Range, t_sl_api_Range] t_int #[.slice (slP (slP s.p s.c 0 2) (s.c - 0) i.toNat 2) (j.toNat - i.toNat) ((s.c - 0) - i.toNat), .slice (slP v.p v.c y.toNat 2) (v.n - y.toNat) (v.c - y.toNat)]) H13 (fun v14 H14 =>
  ∃ x9 : Int, v14 = .int .i64 x9 ∧ (
  0 ≤ (s.n : Int) ∧ (s.n : Int) ≤ (((tot.toNat - 0) : Nat) : Int) ∧ (
  0 ≤ y ∧ y ≤ (v.c : Int) ∧ (
  runH Tryd.prog (Builtin.copy_ #[t_sl_api_Range, t_sl_api_Range] t_int #[.slice (slP (slP s.p s.c 0 2) (s.c - 0) ((s.n : Int).toNat) 2) ((tot.toNat - 0) - (s.n : Int).toNat) ((s.c - 0) - (s.n : Int).toNat), .slice (slP v.p v.c 0 2) (y.toNat - 0) (v.c - 0)]) H14 (fun v15 H15 =>
  ∃ x10 : Int, v15 = .int .i64 x10 ∧ (
  0 ≤ i ∧ i ≤ (((tot.toNat - 0) : Nat) : Int) ∧ (
  CallsH Tryd.prog n_slices_rotateRight_api_Range #[.slice (slP (slP s.p s.c 0 2) (s.c - 0) i.toNat 2) ((tot.toNat - 0) - i.toNat) ((s.c - 0) - i.toNat), .int .i64 y] H15 (fun v16 H16 =>
  v16 = .tuple #[] ∧ (
  R (.slice (slP s.p s.c 0 2) (tot.toNat - 0) (s.c - 0)) H16))))))))))))) (
  0 ≤ (s.n : Int) ∧ (s.n : Int) ≤ (((tot.toNat - 0) : Nat) : Int) ∧ (
  runH Tryd.prog (callFunc n_slices_overlaps_api_Range #[.slice (slP (slP s.p s.c 0 2) (s.c - 0) ((s.n : Int).toNat) 2) ((tot.toNat - 0) - (s.n : Int).toNat) ((s.c - 0) - (s.n : Int).toNat), .slice v.p v.n v.c]) H13 (fun nx2 H17 => nextV nx2 (fun v17 =>
  ∃ x11 : Bool, v17 = .bool x11 ∧ (
  iteB (!x11) (
  0 ≤ (s.n : Int) ∧ (s.n : Int) ≤ (((tot.toNat - 0) : Nat) : Int) ∧ (
  0 ≤ y ∧ y ≤ (v.c : Int) ∧ (
  runH Tryd.prog (Builtin.copy_ #[t_sl_api_Range, t_sl_api_Range] t_int #[.slice (slP (slP s.p s.c 0 2) (s.c - 0) ((s.n : Int).toNat) 2) ((tot.toNat - 0) - (s.n : Int).toNat) ((s.c - 0) - (s.n : Int).toNat), .slice (slP v.p v.c 0 2) (y.toNat - 0) (v.c - 0)]) H17 (fun v18 H18 =>
  ∃ x12 : Int, v18 = .int .i64 x12 ∧ (
  0 ≤ j ∧ j ≤ (((s.c - 0) : Nat) : Int) ∧ (
  0 ≤ i ∧ i ≤ (j.toNat : Int) ∧ (
  0 ≤ y ∧ y ≤ (v.n : Int) ∧ (
  runH Tryd.prog (Builtin.copy_ #[t_sl_api_Range, t_sl_api_Range] t_int #[.slice (slP (slP s.p s.c 0 2) (s.c - 0) i.toNat 2) (j.toNat - i.toNat) ((s.c - 0) - i.toNat), .slice (slP v.p v.c y.toNat 2) (v.n - y.toNat) (v.c - y.toNat)]) H18 (fun v19 H19 =>
  ∃ x13 : Int, v19 = .int .i64 x13 ∧ (
  0 ≤ i ∧ i ≤ (((tot.toNat - 0) : Nat) : Int) ∧ (
  CallsH Tryd.prog n_slices_rotateRight_api_Range #[.slice (slP (slP s.p s.c 0 2) (s.c - 0) i.toNat 2) ((tot.toNat - 0) - i.toNat) ((s.c - 0) - i.toNat), .int .i64 y] H19 (fun v20 H20 =>
  v20 = .tuple #[] ∧ (
  R (.slice (slP s.p s.c 0 2) (tot.toNat - 0) (s.c - 0)) H20))))))))))))) (
  0 ≤ j ∧ j ≤ (s.n : Int) ∧ (
  CallsH Tryd.prog n_slices_startIdx_api_Range #[.slice v.p v.n v.c, .slice (slP s.p s.c j.toNat 2) (s.n - j.toNat) (s.c - j.toNat)] H17 (fun v21 H21 =>
  ∃ k : Int, v21 = .int .i64 k ∧ (
  0 ≤ i ∧ i ≤ (((tot.toNat - 0) : Nat) : Int) ∧ (
  runH Tryd.prog (Builtin.copy_ #[t_sl_api_Range, t_sl_api_Range] t_int #[.slice (slP (slP s.p s.c 0 2) (s.c - 0) i.toNat 2) ((tot.toNat - 0) - i.toNat) ((s.c - 0) - i.toNat), .slice v.p v.n v.c]) H21 (fun v22 H22 =>
  ∃ x14 : Int, v22 = .int .i64 x14 ∧ (
  0 ≤ (IntKind.i64.wrap (i + (v.n : Int))) ∧ (IntKind.i64.wrap (i + (v.n : Int))) ≤ (((tot.toNat - 0) : Nat) : Int) ∧ (
  0 ≤ (IntKind.i64.wrap (i + k)) ∧ (IntKind.i64.wrap (i + k)) ≤ (((tot.toNat - 0) : Nat) : Int) ∧ (
  runH Tryd.prog (Builtin.copy_ #[t_sl_api_Range, t_sl_api_Range] t_int #[.slice (slP (slP s.p s.c 0 2) (s.c - 0) ((IntKind.i64.wrap (i + (v.n : Int))).toNat) 2) ((tot.toNat - 0) - (IntKind.i64.wrap (i + (v.n : Int))).toNat) ((s.c - 0) - (IntKind.i64.wrap (i + (v.n : Int))).toNat), .slice (slP (slP s.p s.c 0 2) (s.c - 0) ((IntKind.i64.wrap (i + k)).toNat) 2) ((tot.toNat - 0) - (IntKind.i64.wrap (i + k)).toNat) ((s.c - 0) - (IntKind.i64.wrap (i + k)).toNat)]) H22 (fun v23 H23 =>
  ∃ x15 : Int, v23 = .int .i64 x15 ∧ (
  R (.slice (slP s.p s.c 0 2) (tot.toNat - 0) (s.c - 0)) H23)))))))))))))))))))))))))))))))))))))

theorem F_slices_Replace_sl_api_Range_api_Range_eq (R : Value → Heap → Prop) (s : Sl) (i : Int) (j : Int) (v : Sl) (H : Heap) : wpF Tryd.prog Tryd.f54 [] [] [] [6] [.slice s.p s.n s.c, .int .i64 i, .int .i64 j, .slice v.p v.n v.c] H R = F_slices_Replace_sl_api_Range_api_Range R s i j v H := by kernel_rfl

theorem F_slices_Replace_sl_api_Range_api_Range_ok {R : Value → Heap → Prop} (s : Sl) (i : Int) (j : Int) (v : Sl) {H : Heap} (h : F_slices_Replace_sl_api_Range_api_Range R s i j v H) : CallsH Tryd.prog n_slices_Replace_sl_api_Range_api_Range #[.slice s.p s.n s.c, .int .i64 i, .int .i64 j, .slice v.p v.n v.c] H R :=
  wpF_ok Tryd.func54 (F_slices_Replace_sl_api_Range_api_Range_eq R s i j v H) h

/-! ### 55: platformfw/allocate.demand -/

def F_allocate_demand_r1 (R : Value → Heap → Prop) (sizes : Sl) (k : Int) (I_ : Int → Int → Heap → Prop) (M_ : Int → Int → Heap → Nat) (sum : Int) (x : Int) (H1 : Heap) : Prop :=
  iteB (decide (x < (sizes.n : Int))) (
  0 ≤ x ∧ x < (sizes.n : Int) ∧ (unSome sizes.p (fun a =>
  ∃ size : Int, rd H1 (a.add (x.toNat * 1)) = some (.int .i64 size) ∧ (
  iteB (decide (size ≥ k)) (
  0 ≤ size ∧ (
  letV (IntKind.u64.wrap (sum + (IntKind.u64.wrap ((1 : Int) * 2 ^ (min size.toNat IntKind.u64.bits))))) (fun sum1 : Int =>
  I_ sum1 (IntKind.i64.wrap (x + (1 : Int))) H1 ∧ M_ sum1 (IntKind.i64.wrap (x + (1 : Int))) H1 < M_ sum x H1))) (
  I_ sum (IntKind.i64.wrap (x + (1 : Int))) H1 ∧ M_ sum (IntKind.i64.wrap (x + (1 : Int))) H1 < M_ sum x H1))))) (
  R (.int .u64 sum) H1)

def F_allocate_demand (R : Value → Heap → Prop) (sizes : Sl) (k : Int) (H : Heap) : Prop :=
  ∃ I_ : Int → Int → Heap → Prop, ∃ M_ : Int → Int → Heap → Nat, I_ (0 : Int) (0 : Int) H ∧ (∀ sum : Int, ∀ x : Int, ∀ H1 : Heap, I_ sum x H1 → F_allocate_demand_r1 R sizes k I_ M_ sum x H1)

theorem F_allocate_demand_eq (R : Value → Heap → Prop) (sizes : Sl) (k : Int) (H : Heap) : wpF Tryd.prog Tryd.f55 [(5, .int .u64 0), (10, .int .i64 0)] [] [(3, [5, 10], [1, 8, 9])] [6] [.slice sizes.p sizes.n sizes.c, .int .i64 k] H R = F_allocate_demand R sizes k H := by kernel_rfl

theorem F_allocate_demand_ok {R : Value → Heap → Prop} (sizes : Sl) (k : Int) {H : Heap} (h : F_allocate_demand R sizes k H) : CallsH Tryd.prog n_allocate_demand #[.slice sizes.p sizes.n sizes.c, .int .i64 k] H R :=
  wpF_ok Tryd.func55 (F_allocate_demand_eq R sizes k H) h

/-! ### 56: platformfw/allocate.countBlocks -/

def F_allocate_countBlocks_r1 (R : Value → Heap → Prop) (l : Sl) (k : Int) (size : Int) (I_ : Int → Int → Heap → Prop) (M_ : Int → Int → Heap → Nat) (count : Int) (x : Int) (H1 : Heap) : Prop :=
  iteB (decide (x < (l.n : Int))) (
  0 ≤ x ∧ x < (l.n : Int) ∧ (unSome l.p (fun a =>
  ∃ x1 : Int, rd H1 (a.add (x.toNat * 2)) = some (.int .u64 x1) ∧ ∃ x2 : Int, rd H1 ((a.add (x.toNat * 2)).add 1) = some (.int .u64 x2) ∧ (
  letH (H1.push (.cells #[.int .u64 (0 : Int), .int .u64 (0 : Int)] t_api_Range (0, 0))) (fun H2 : Heap =>
  okRow H2 (⟨H1.size, 0, none⟩ : Addr) 2 ∧ (
  letH (wrs H2 (⟨H1.size, 0, none⟩ : Addr) [.int .u64 x1, .int .u64 x2]) (fun H3 : Heap =>
  ∃ x3 : Int, rd H3 (⟨H1.size, 0, none⟩ : Addr) = some (.int .u64 x3) ∧ (
  0 ≤ k ∧ (
  letV ((IntKind.u64.wrap ((IntKind.u64.wrap (x3 + size)) - (1 : Int))).fdiv (2 ^ (min k.toNat IntKind.u64.bits))) (fun first : Int =>
  ∃ x4 : Int, rd H3 (⟨H1.size, 0, none⟩ : Addr) = some (.int .u64 x4) ∧ (
  ∃ x5 : Int, rd H3 ((⟨H1.size, 0, none⟩ : Addr).add 1) = some (.int .u64 x5) ∧ (
  0 ≤ k ∧ (
  letV ((IntKind.u64.wrap (x4 + x5)).fdiv (2 ^ (min k.toNat IntKind.u64.bits))) (fun last : Int =>
  iteB (decide (last > first)) (
  letV (IntKind.u64.wrap (count + (IntKind.u64.wrap (last - first)))) (fun count1 : Int =>
  I_ count1 (IntKind.i64.wrap (x + (1 : Int))) H3 ∧ M_ count1 (IntKind.i64.wrap (x + (1 : Int))) H3 < M_ count x H1)) (
  I_ count (IntKind.i64.wrap (x + (1 : Int))) H3 ∧ M_ count (IntKind.i64.wrap (x + (1 : Int))) H3 < M_ count x H1))))))))))))))) (
  R (.int .u64 count) H1)

def F_allocate_countBlocks (R : Value → Heap → Prop) (l : Sl) (k : Int) (H : Heap) : Prop :=
  0 ≤ k ∧ (
  letV (IntKind.u64.wrap ((1 : Int) * 2 ^ (min k.toNat IntKind.u64.bits))) (fun size : Int =>
  ∃ I_ : Int → Int → Heap → Prop, ∃ M_ : Int → Int → Heap → Nat, I_ (0 : Int) (0 : Int) H ∧ (∀ count : Int, ∀ x : Int, ∀ H1 : Heap, I_ count x H1 → F_allocate_countBlocks_r1 R l k size I_ M_ count x H1)))

theorem F_allocate_countBlocks_eq (R : Value → Heap → Prop) (l : Sl) (k : Int) (H : Heap) : wpF Tryd.prog Tryd.f56 [(5, .int .u64 0), (15, .int .i64 0)] [] [(4, [5, 15], [1, 6, 13, 14])] [6] [.slice l.p l.n l.c, .int .i64 k] H R = F_allocate_countBlocks R l k H := by kernel_rfl

theorem F_allocate_countBlocks_ok {R : Value → Heap → Prop} (l : Sl) (k : Int) {H : Heap} (h : F_allocate_countBlocks R l k H) : CallsH Tryd.prog n_allocate_countBlocks #[.slice l.p l.n l.c, .int .i64 k] H R :=
  wpF_ok Tryd.func56 (F_allocate_countBlocks_eq R l k H) h

/-! ### 57: slices.insertionSortCmpFunc[int] -/

def F_slices_insertionSortCmpFunc_int_r1 (data : Sl) (a : Int) (cap : Addr) (I_ : Int → Heap → Prop) (M_ : Int → Heap → Nat) (i1 : Int) (H1 : Heap) (I_1 : Int → Heap → Prop) (M_1 : Int → Heap → Nat) (j : Int) (H2 : Heap) : Prop :=
  iteB (decide (j > a)) (
  0 ≤ j ∧ j < (data.n : Int) ∧ (unSome data.p (fun a1 =>
  ∃ x : Int, rd H2 (a1.add (j.toNat * 1)) = some (.int .i64 x) ∧ (
  0 ≤ (IntKind.i64.wrap (j - (1 : Int))) ∧ (IntKind.i64.wrap (j - (1 : Int))) < (data.n : Int) ∧ (unSome data.p (fun a2 =>
  ∃ x1 : Int, rd H2 (a2.add ((IntKind.i64.wrap (j - (1 : Int))).toNat * 1)) = some (.int .i64 x1) ∧ (
  CallsH Tryd.prog n_allocate_Place_1 #[.int .i64 x, .int .i64 x1, .pointer (some cap)] H2 (fun v H3 =>
  ∃ x2 : Int, v = .int .i64 x2 ∧ (
  iteB (decide (x2 < (0 : Int))) (
  0 ≤ (IntKind.i64.wrap (j - (1 : Int))) ∧ (IntKind.i64.wrap (j - (1 : Int))) < (data.n : Int) ∧ (unSome data.p (fun a3 =>
  ∃ x3 : Int, rd H3 (a3.add ((IntKind.i64.wrap (j - (1 : Int))).toNat * 1)) = some (.int .i64 x3) ∧ (
  0 ≤ j ∧ j < (data.n : Int) ∧ (unSome data.p (fun a4 =>
  ∃ x4 : Int, rd H3 (a4.add (j.toNat * 1)) = some (.int .i64 x4) ∧ (
  0 ≤ j ∧ j < (data.n : Int) ∧ (unSome data.p (fun a5 =>
  okRow H3 (a5.add (j.toNat * 1)) 1 ∧ (
  letH (wrs H3 (a5.add (j.toNat * 1)) [.int .i64 x3]) (fun H4 : Heap =>
  0 ≤ (IntKind.i64.wrap (j - (1 : Int))) ∧ (IntKind.i64.wrap (j - (1 : Int))) < (data.n : Int) ∧ (unSome data.p (fun a6 =>
  okRow H4 (a6.add ((IntKind.i64.wrap (j - (1 : Int))).toNat * 1)) 1 ∧ (
  letH (wrs H4 (a6.add ((IntKind.i64.wrap (j - (1 : Int))).toNat * 1)) [.int .i64 x4]) (fun H5 : Heap =>
  letV (IntKind.i64.wrap (j - (1 : Int))) (fun j1 : Int =>
  I_1 j1 H5 ∧ M_1 j1 H5 < M_1 j H2)))))))))))))))) (
  letV (IntKind.i64.wrap (i1 + (1 : Int))) (fun i2 : Int =>
  I_ i2 H3 ∧ M_ i2 H3 < M_ i1 H1))))))))))) (
  letV (IntKind.i64.wrap (i1 + (1 : Int))) (fun i3 : Int =>
  I_ i3 H2 ∧ M_ i3 H2 < M_ i1 H1))

def F_slices_insertionSortCmpFunc_int_r2 (R : Value → Heap → Prop) (data : Sl) (a : Int) (b : Int) (cap : Addr) (I_ : Int → Heap → Prop) (M_ : Int → Heap → Nat) (i1 : Int) (H1 : Heap) : Prop :=
  iteB (decide (i1 < b)) (
  ∃ I_1 : Int → Heap → Prop, ∃ M_1 : Int → Heap → Nat, I_1 i1 H1 ∧ (∀ j : Int, ∀ H2 : Heap, I_1 j H2 → F_slices_insertionSortCmpFunc_int_r1 data a cap I_ M_ i1 H1 I_1 M_1 j H2)) (
  R (.tuple #[]) H1)

def F_slices_insertionSortCmpFunc_int (R : Value → Heap → Prop) (data : Sl) (a : Int) (b : Int) (cap : Addr) (H : Heap) : Prop :=
  letV (IntKind.i64.wrap (a + (1 : Int))) (fun i : Int =>
  ∃ I_ : Int → Heap → Prop, ∃ M_ : Int → Heap → Nat, I_ i H ∧ (∀ i1 : Int, ∀ H1 : Heap, I_ i1 H1 → F_slices_insertionSortCmpFunc_int_r2 R data a b cap I_ M_ i1 H1))

theorem F_slices_insertionSortCmpFunc_int_eq (R : Value → Heap → Prop) (data : Sl) (a : Int) (b : Int) (cap : Addr) (H : Heap) : wpF Tryd.prog Tryd.f57 [(8, .int .i64 0), (9, .int .i64 0)] [] [(1, [8], [0, 1, 2, 3]), (4, [9], [0, 1, 2, 3, 8])] [6] [.slice data.p data.n data.c, .int .i64 a, .int .i64 b, .func (.func 39) #[] #[.pointer (some cap)]] H R = F_slices_insertionSortCmpFunc_int R data a b cap H := by kernel_rfl

theorem F_slices_insertionSortCmpFunc_int_ok {R : Value → Heap → Prop} (data : Sl) (a : Int) (b : Int) (cap : Addr) {H : Heap} (h : F_slices_insertionSortCmpFunc_int R data a b cap H) : CallsH Tryd.prog n_slices_insertionSortCmpFunc_int #[.slice data.p data.n data.c, .int .i64 a, .int .i64 b, .func (.func 39) #[] #[.pointer (some cap)]] H R :=
  wpF_ok Tryd.func57 (F_slices_insertionSortCmpFunc_int_eq R data a b cap H) h

/-! ### 58: slices.symMergeCmpFunc[int] -/

def F_slices_symMergeCmpFunc_int_r1 (R : Value → Heap → Prop) (data : Sl) (i : Int) (I_1 : Int → Heap → Prop) (M_1 : Int → Heap → Nat) (k : Int) (H3 : Heap) : Prop :=
  iteB (decide (k < (IntKind.i64.wrap (i - (1 : Int))))) (
  0 ≤ (IntKind.i64.wrap (k + (1 : Int))) ∧ (IntKind.i64.wrap (k + (1 : Int))) < (data.n : Int) ∧ (unSome data.p (fun a3 =>
  ∃ x3 : Int, rd H3 (a3.add ((IntKind.i64.wrap (k + (1 : Int))).toNat * 1)) = some (.int .i64 x3) ∧ (
  0 ≤ k ∧ k < (data.n : Int) ∧ (unSome data.p (fun a4 =>
  ∃ x4 : Int, rd H3 (a4.add (k.toNat * 1)) = some (.int .i64 x4) ∧ (
  0 ≤ k ∧ k < (data.n : Int) ∧ (unSome data.p (fun a5 =>
  okRow H3 (a5.add (k.toNat * 1)) 1 ∧ (
  letH (wrs H3 (a5.add (k.toNat * 1)) [.int .i64 x3]) (fun H4 : Heap =>
  0 ≤ (IntKind.i64.wrap (k + (1 : Int))) ∧ (IntKind.i64.wrap (k + (1 : Int))) < (data.n : Int) ∧ (unSome data.p (fun a6 =>
  okRow H4 (a6.add ((IntKind.i64.wrap (k + (1 : Int))).toNat * 1)) 1 ∧ (
  letH (wrs H4 (a6.add ((IntKind.i64.wrap (k + (1 : Int))).toNat * 1)) [.int .i64 x4]) (fun H5 : Heap =>
  letV (IntKind.i64.wrap (k + (1 : Int))) (fun k1 : Int =>
  I_1 k1 H5 ∧ M_1 k1 H5 < M_1 k H3)))))))))))))))) (
  R (.tuple #[]) H3)

def F_slices_symMergeCmpFunc_int_r2 (R : Value → Heap → Prop) (data : Sl) (a : Int) (cap : Addr) (I_ : Int → Int → Heap → Prop) (M_ : Int → Int → Heap → Nat) (i : Int) (j : Int) (H1 : Heap) : Prop :=
  iteB (decide (i < j)) (
  0 ≤ (1 : Int) ∧ (
  letV (IntKind.i64.wrap ((IntKind.u64.wrap (IntKind.i64.wrap (i + j))).fdiv (2 ^ (min (1 : Int).toNat IntKind.u64.bits)))) (fun h : Int =>
  0 ≤ h ∧ h < (data.n : Int) ∧ (unSome data.p (fun a1 =>
  ∃ x : Int, rd H1 (a1.add (h.toNat * 1)) = some (.int .i64 x) ∧ (
  0 ≤ a ∧ a < (data.n : Int) ∧ (unSome data.p (fun a2 =>
  ∃ x1 : Int, rd H1 (a2.add (a.toNat * 1)) = some (.int .i64 x1) ∧ (
  CallsH Tryd.prog n_allocate_Place_1 #[.int .i64 x, .int .i64 x1, .pointer (some cap)] H1 (fun v H2 =>
  ∃ x2 : Int, v = .int .i64 x2 ∧ (
  iteB (decide (x2 < (0 : Int))) (
  letV (IntKind.i64.wrap (h + (1 : Int))) (fun i1 : Int =>
  I_ i1 j H2 ∧ M_ i1 j H2 < M_ i j H1)) (
  I_ i h H2 ∧ M_ i h H2 < M_ i j H1)))))))))))) (
  ∃ I_1 : Int → Heap → Prop, ∃ M_1 : Int → Heap → Nat, I_1 a H1 ∧ (∀ k : Int, ∀ H3 : Heap, I_1 k H3 → F_slices_symMergeCmpFunc_int_r1 R data i I_1 M_1 k H3))

def F_slices_symMergeCmpFunc_int_r3 (R : Value → Heap → Prop) (data : Sl) (i2 : Int) (I_3 : Int → Heap → Prop) (M_3 : Int → Heap → Nat) (k2 : Int) (H8 : Heap) : Prop :=
  iteB (decide (k2 > i2)) (
  0 ≤ (IntKind.i64.wrap (k2 - (1 : Int))) ∧ (IntKind.i64.wrap (k2 - (1 : Int))) < (data.n : Int) ∧ (unSome data.p (fun a9 =>
  ∃ x8 : Int, rd H8 (a9.add ((IntKind.i64.wrap (k2 - (1 : Int))).toNat * 1)) = some (.int .i64 x8) ∧ (
  0 ≤ k2 ∧ k2 < (data.n : Int) ∧ (unSome data.p (fun a10 =>
  ∃ x9 : Int, rd H8 (a10.add (k2.toNat * 1)) = some (.int .i64 x9) ∧ (
  0 ≤ k2 ∧ k2 < (data.n : Int) ∧ (unSome data.p (fun a11 =>
  okRow H8 (a11.add (k2.toNat * 1)) 1 ∧ (
  letH (wrs H8 (a11.add (k2.toNat * 1)) [.int .i64 x8]) (fun H9 : Heap =>
  0 ≤ (IntKind.i64.wrap (k2 - (1 : Int))) ∧ (IntKind.i64.wrap (k2 - (1 : Int))) < (data.n : Int) ∧ (unSome data.p (fun a12 =>
  okRow H9 (a12.add ((IntKind.i64.wrap (k2 - (1 : Int))).toNat * 1)) 1 ∧ (
  letH (wrs H9 (a12.add ((IntKind.i64.wrap (k2 - (1 : Int))).toNat * 1)) [.int .i64 x9]) (fun H10 : Heap =>
  letV (IntKind.i64.wrap (k2 - (1 : Int))) (fun k3 : Int =>
  I_3 k3 H10 ∧ M_3 k3 H10 < M_3 k2 H8)))))))))))))))) (
  R (.tuple #[]) H8)

def F_slices_symMergeCmpFunc_int_r4 (R : Value → Heap → Prop) (data : Sl) (m : Int) (cap : Addr) (I_2 : Int → Int → Heap → Prop) (M_2 : Int → Int → Heap → Nat) (i2 : Int) (j1 : Int) (H6 : Heap) : Prop :=
  iteB (decide (i2 < j1)) (
  0 ≤ (1 : Int) ∧ (
  letV (IntKind.i64.wrap ((IntKind.u64.wrap (IntKind.i64.wrap (i2 + j1))).fdiv (2 ^ (min (1 : Int).toNat IntKind.u64.bits)))) (fun h1 : Int =>
  0 ≤ m ∧ m < (data.n : Int) ∧ (unSome data.p (fun a7 =>
  ∃ x5 : Int, rd H6 (a7.add (m.toNat * 1)) = some (.int .i64 x5) ∧ (
  0 ≤ h1 ∧ h1 < (data.n : Int) ∧ (unSome data.p (fun a8 =>
  ∃ x6 : Int, rd H6 (a8.add (h1.toNat * 1)) = some (.int .i64 x6) ∧ (
  CallsH Tryd.prog n_allocate_Place_1 #[.int .i64 x5, .int .i64 x6, .pointer (some cap)] H6 (fun v1 H7 =>
  ∃ x7 : Int, v1 = .int .i64 x7 ∧ (
  iteB (!(decide (x7 < (0 : Int)))) (
  letV (IntKind.i64.wrap (h1 + (1 : Int))) (fun i3 : Int =>
  I_2 i3 j1 H7 ∧ M_2 i3 j1 H7 < M_2 i2 j1 H6)) (
  I_2 i2 h1 H7 ∧ M_2 i2 h1 H7 < M_2 i2 j1 H6)))))))))))) (
  ∃ I_3 : Int → Heap → Prop, ∃ M_3 : Int → Heap → Nat, I_3 m H6 ∧ (∀ k2 : Int, ∀ H8 : Heap, I_3 k2 H8 → F_slices_symMergeCmpFunc_int_r3 R data i2 I_3 M_3 k2 H8))

def F_slices_symMergeCmpFunc_int_k5 (data : Sl) (m : Int) (cap : Addr) (start2 : Int) (endv : Int) (J_1 : Heap → Prop) (x13 : Bool) (H14 : Heap) : Prop :=
  iteB x13 (
  CallsH Tryd.prog n_slices_rotateCmpFunc_int #[.slice data.p data.n data.c, .int .i64 start2, .int .i64 m, .int .i64 endv, .func (.func 39) #[] #[.pointer (some cap)]] H14 (fun v3 H15 =>
  v3 = .tuple #[] ∧ (
  J_1 H15))) (
  J_1 H14)

def F_slices_symMergeCmpFunc_int_k6 (data : Sl) (a : Int) (cap : Addr) (mid : Int) (start2 : Int) (J_3 : Heap → Prop) (x14 : Bool) (H17 : Heap) : Prop :=
  iteB x14 (
  CallsH Tryd.prog n_slices_symMergeCmpFunc_int #[.slice data.p data.n data.c, .int .i64 a, .int .i64 start2, .int .i64 mid, .func (.func 39) #[] #[.pointer (some cap)]] H17 (fun v4 H18 =>
  v4 = .tuple #[] ∧ (
  J_3 H18))) (
  J_3 H17)

def F_slices_symMergeCmpFunc_int_k7 (R : Value → Heap → Prop) (data : Sl) (b : Int) (cap : Addr) (mid : Int) (endv : Int) (x15 : Bool) (H20 : Heap) : Prop :=
  iteB x15 (
  CallsH Tryd.prog n_slices_symMergeCmpFunc_int #[.slice data.p data.n data.c, .int .i64 mid, .int .i64 endv, .int .i64 b, .func (.func 39) #[] #[.pointer (some cap)]] H20 (fun v5 H21 =>
  v5 = .tuple #[] ∧ (
  R (.tuple #[]) H21))) (
  R (.tuple #[]) H20)

def F_slices_symMergeCmpFunc_int_k8 (R : Value → Heap → Prop) (data : Sl) (b : Int) (cap : Addr) (mid : Int) (endv : Int) (H19 : Heap) : Prop :=
  ∃ J_5 : Bool → Heap → Prop, (
  iteB (decide (mid < endv)) (
  J_5 (decide (endv < b)) H19) (
  J_5 false H19)) ∧ (∀ x15 : Bool, ∀ H20 : Heap, J_5 x15 H20 → F_slices_symMergeCmpFunc_int_k7 R data b cap mid endv x15 H20)

def F_slices_symMergeCmpFunc_int_k9 (R : Value → Heap → Prop) (data : Sl) (a : Int) (b : Int) (cap : Addr) (mid : Int) (start2 : Int) (endv : Int) (H16 : Heap) : Prop :=
  ∃ J_3 : Heap → Prop, (
  ∃ J_4 : Bool → Heap → Prop, (
  iteB (decide (a < start2)) (
  J_4 (decide (start2 < mid)) H16) (
  J_4 false H16)) ∧ (∀ x14 : Bool, ∀ H17 : Heap, J_4 x14 H17 → F_slices_symMergeCmpFunc_int_k6 data a cap mid start2 J_3 x14 H17)) ∧ (∀ H19 : Heap, J_3 H19 → F_slices_symMergeCmpFunc_int_k8 R data b cap mid endv H19)

def F_slices_symMergeCmpFunc_int_r10 (R : Value → Heap → Prop) (data : Sl) (a : Int) (m : Int) (b : Int) (cap : Addr) (mid : Int) (n : Int) (p : Int) (I_4 : Int → Int → Heap → Prop) (M_4 : Int → Int → Heap → Nat) (start2 : Int) (r1 : Int) (H12 : Heap) : Prop :=
  iteB (decide (start2 < r1)) (
  0 ≤ (1 : Int) ∧ (
  letV (IntKind.i64.wrap ((IntKind.u64.wrap (IntKind.i64.wrap (start2 + r1))).fdiv (2 ^ (min (1 : Int).toNat IntKind.u64.bits)))) (fun c : Int =>
  0 ≤ (IntKind.i64.wrap (p - c)) ∧ (IntKind.i64.wrap (p - c)) < (data.n : Int) ∧ (unSome data.p (fun a13 =>
  ∃ x10 : Int, rd H12 (a13.add ((IntKind.i64.wrap (p - c)).toNat * 1)) = some (.int .i64 x10) ∧ (
  0 ≤ c ∧ c < (data.n : Int) ∧ (unSome data.p (fun a14 =>
  ∃ x11 : Int, rd H12 (a14.add (c.toNat * 1)) = some (.int .i64 x11) ∧ (
  CallsH Tryd.prog n_allocate_Place_1 #[.int .i64 x10, .int .i64 x11, .pointer (some cap)] H12 (fun v2 H13 =>
  ∃ x12 : Int, v2 = .int .i64 x12 ∧ (
  iteB (!(decide (x12 < (0 : Int)))) (
  letV (IntKind.i64.wrap (c + (1 : Int))) (fun start3 : Int =>
  I_4 start3 r1 H13 ∧ M_4 start3 r1 H13 < M_4 start2 r1 H12)) (
  I_4 start2 c H13 ∧ M_4 start2 c H13 < M_4 start2 r1 H12)))))))))))) (
  letV (IntKind.i64.wrap (n - start2)) (fun endv : Int =>
  ∃ J_1 : Heap → Prop, (
  ∃ J_2 : Bool → Heap → Prop, (
  iteB (decide (start2 < m)) (
  J_2 (decide (m < endv)) H12) (
  J_2 false H12)) ∧ (∀ x13 : Bool, ∀ H14 : Heap, J_2 x13 H14 → F_slices_symMergeCmpFunc_int_k5 data m cap start2 endv J_1 x13 H14)) ∧ (∀ H16 : Heap, J_1 H16 → F_slices_symMergeCmpFunc_int_k9 R data a b cap mid start2 endv H16)))

def F_slices_symMergeCmpFunc_int_k11 (R : Value → Heap → Prop) (data : Sl) (a : Int) (m : Int) (b : Int) (cap : Addr) (mid : Int) (n : Int) (start1 : Int) (r : Int) (H11 : Heap) : Prop :=
  letV (IntKind.i64.wrap (n - (1 : Int))) (fun p : Int =>
  ∃ I_4 : Int → Int → Heap → Prop, ∃ M_4 : Int → Int → Heap → Nat, I_4 start1 r H11 ∧ (∀ start2 : Int, ∀ r1 : Int, ∀ H12 : Heap, I_4 start2 r1 H12 → F_slices_symMergeCmpFunc_int_r10 R data a m b cap mid n p I_4 M_4 start2 r1 H12))

def F_slices_symMergeCmpFunc_int (R : Value → Heap → Prop) (data : Sl) (a : Int) (m : Int) (b : Int) (cap : Addr) (H : Heap) : Prop :=
  iteB ((IntKind.i64.wrap (m - a)) == (1 : Int)) (
  ∃ I_ : Int → Int → Heap → Prop, ∃ M_ : Int → Int → Heap → Nat, I_ m b H ∧ (∀ i : Int, ∀ j : Int, ∀ H1 : Heap, I_ i j H1 → F_slices_symMergeCmpFunc_int_r2 R data a cap I_ M_ i j H1)) (
  iteB ((IntKind.i64.wrap (b - m)) == (1 : Int)) (
  ∃ I_2 : Int → Int → Heap → Prop, ∃ M_2 : Int → Int → Heap → Nat, I_2 a m H ∧ (∀ i2 : Int, ∀ j1 : Int, ∀ H6 : Heap, I_2 i2 j1 H6 → F_slices_symMergeCmpFunc_int_r4 R data m cap I_2 M_2 i2 j1 H6)) (
  0 ≤ (1 : Int) ∧ (
  letV (IntKind.i64.wrap ((IntKind.u64.wrap (IntKind.i64.wrap (a + b))).fdiv (2 ^ (min (1 : Int).toNat IntKind.u64.bits)))) (fun mid : Int =>
  letV (IntKind.i64.wrap (mid + m)) (fun n : Int =>
  ∃ J_ : Int → Int → Heap → Prop, (
  iteB (decide (m > mid)) (
  letV (IntKind.i64.wrap (n - b)) (fun start : Int =>
  J_ start mid H)) (
  J_ a m H)) ∧ (∀ start1 : Int, ∀ r : Int, ∀ H11 : Heap, J_ start1 r H11 → F_slices_symMergeCmpFunc_int_k11 R data a m b cap mid n start1 r H11))))))

theorem F_slices_symMergeCmpFunc_int_eq (R : Value → Heap → Prop) (data : Sl) (a : Int) (m : Int) (b : Int) (cap : Addr) (H : Heap) : wpF Tryd.prog Tryd.f58 [(10, .int .i64 0), (11, .int .i64 0), (13, .int .i64 0), (14, .int .i64 0), (15, .int .i64 0), (17, .int .i64 0), (20, .int .i64 0), (21, .int .i64 0), (185, .bool false), (199, .bool false), (213, .bool false)] [(32, [20, 21], [0, 1, 2, 3, 4, 18, 19]), (41, [], [0, 1, 3, 4, 18, 20, 24]), (40, [185], [0, 1, 2, 3, 4, 18, 20, 24]), (43, [], [0, 3, 4, 18, 24]), (42, [199], [0, 1, 3, 4, 18, 20, 24]), (44, [213], [0, 3, 4, 18, 24])] [(3, [10, 11], [0, 1, 4]), (9, [13], [0, 10]), (15, [14, 15], [0, 2, 4]), (21, [17], [0, 14]), (33, [20, 21], [0, 1, 2, 3, 4, 18, 19, 22])] [6] [.slice data.p data.n data.c, .int .i64 a, .int .i64 m, .int .i64 b, .func (.func 39) #[] #[.pointer (some cap)]] H R = F_slices_symMergeCmpFunc_int R data a m b cap H := by kernel_rfl

theorem F_slices_symMergeCmpFunc_int_ok {R : Value → Heap → Prop} (data : Sl) (a : Int) (m : Int) (b : Int) (cap : Addr) {H : Heap} (h : F_slices_symMergeCmpFunc_int R data a m b cap H) : CallsH Tryd.prog n_slices_symMergeCmpFunc_int #[.slice data.p data.n data.c, .int .i64 a, .int .i64 m, .int .i64 b, .func (.func 39) #[] #[.pointer (some cap)]] H R :=
  wpF_ok Tryd.func58 (F_slices_symMergeCmpFunc_int_eq R data a m b cap H) h

/-! ### 60: cmp.isNaN[uint64] -/

def F_cmp_isNaN_uint64 (R : Value → Heap → Prop) (x : Int) (H : Heap) : Prop :=
  R (.bool (x != x)) H

theorem F_cmp_isNaN_uint64_eq (R : Value → Heap → Prop) (x : Int) (H : Heap) : wpF Tryd.prog Tryd.f60 [] [] [] [6] [.int .u64 x] H R = F_cmp_isNaN_uint64 R x H := by kernel_rfl

theorem F_cmp_isNaN_uint64_ok {R : Value → Heap → Prop} (x : Int) {H : Heap} (h : F_cmp_isNaN_uint64 R x H) : CallsH Tryd.prog n_cmp_isNaN_uint64 #[.int .u64 x] H R :=
  wpF_ok Tryd.func60 (F_cmp_isNaN_uint64_eq R x H) h

/-! ### 65: slices.rotateCmpFunc[int] -/

def F_slices_rotateCmpFunc_int_r1 (R : Value → Heap → Prop) (data : Sl) (m : Int) (cap : Addr) (I_ : Int → Int → Heap → Prop) (M_ : Int → Int → Heap → Nat) (i1 : Int) (j1 : Int) (H1 : Heap) : Prop :=
  iteB (i1 != j1) (
  iteB (decide (i1 > j1)) (
  CallsH Tryd.prog n_slices_swapRangeCmpFunc_int #[.slice data.p data.n data.c, .int .i64 (IntKind.i64.wrap (m - i1)), .int .i64 m, .int .i64 j1, .func (.func 39) #[] #[.pointer (some cap)]] H1 (fun v H2 =>
  v = .tuple #[] ∧ (
  letV (IntKind.i64.wrap (i1 - j1)) (fun i2 : Int =>
  I_ i2 j1 H2 ∧ M_ i2 j1 H2 < M_ i1 j1 H1)))) (
  CallsH Tryd.prog n_slices_swapRangeCmpFunc_int #[.slice data.p data.n data.c, .int .i64 (IntKind.i64.wrap (m - i1)), .int .i64 (IntKind.i64.wrap ((IntKind.i64.wrap (m + j1)) - i1)), .int .i64 i1, .func (.func 39) #[] #[.pointer (some cap)]] H1 (fun v1 H3 =>
  v1 = .tuple #[] ∧ (
  letV (IntKind.i64.wrap (j1 - i1)) (fun j2 : Int =>
  I_ i1 j2 H3 ∧ M_ i1 j2 H3 < M_ i1 j1 H1))))) (
  CallsH Tryd.prog n_slices_swapRangeCmpFunc_int #[.slice data.p data.n data.c, .int .i64 (IntKind.i64.wrap (m - i1)), .int .i64 m, .int .i64 i1, .func (.func 39) #[] #[.pointer (some cap)]] H1 (fun v2 H4 =>
  v2 = .tuple #[] ∧ (
  R (.tuple #[]) H4)))

def F_slices_rotateCmpFunc_int (R : Value → Heap → Prop) (data : Sl) (a : Int) (m : Int) (b : Int) (cap : Addr) (H : Heap) : Prop :=
  letV (IntKind.i64.wrap (m - a)) (fun i : Int =>
  letV (IntKind.i64.wrap (b - m)) (fun j : Int =>
  ∃ I_ : Int → Int → Heap → Prop, ∃ M_ : Int → Int → Heap → Nat, I_ i j H ∧ (∀ i1 : Int, ∀ j1 : Int, ∀ H1 : Heap, I_ i1 j1 H1 → F_slices_rotateCmpFunc_int_r1 R data m cap I_ M_ i1 j1 H1)))

theorem F_slices_rotateCmpFunc_int_eq (R : Value → Heap → Prop) (data : Sl) (a : Int) (m : Int) (b : Int) (cap : Addr) (H : Heap) : wpF Tryd.prog Tryd.f65 [(10, .int .i64 0), (11, .int .i64 0)] [] [(2, [10, 11], [0, 2, 4])] [6] [.slice data.p data.n data.c, .int .i64 a, .int .i64 m, .int .i64 b, .func (.func 39) #[] #[.pointer (some cap)]] H R = F_slices_rotateCmpFunc_int R data a m b cap H := by kernel_rfl

theorem F_slices_rotateCmpFunc_int_ok {R : Value → Heap → Prop} (data : Sl) (a : Int) (m : Int) (b : Int) (cap : Addr) {H : Heap} (h : F_slices_rotateCmpFunc_int R data a m b cap H) : CallsH Tryd.prog n_slices_rotateCmpFunc_int #[.slice data.p data.n data.c, .int .i64 a, .int .i64 m, .int .i64 b, .func (.func 39) #[] #[.pointer (some cap)]] H R :=
  wpF_ok Tryd.func65 (F_slices_rotateCmpFunc_int_eq R data a m b cap H) h

/-! ### 75: slices.swapRangeCmpFunc[int] -/

def F_slices_swapRangeCmpFunc_int_r1 (R : Value → Heap → Prop) (data : Sl) (a : Int) (b : Int) (n : Int) (I_ : Int → Heap → Prop) (M_ : Int → Heap → Nat) (i : Int) (H1 : Heap) : Prop :=
  iteB (decide (i < n)) (
  0 ≤ (IntKind.i64.wrap (b + i)) ∧ (IntKind.i64.wrap (b + i)) < (data.n : Int) ∧ (unSome data.p (fun a1 =>
  ∃ x : Int, rd H1 (a1.add ((IntKind.i64.wrap (b + i)).toNat * 1)) = some (.int .i64 x) ∧ (
  0 ≤ (IntKind.i64.wrap (a + i)) ∧ (IntKind.i64.wrap (a + i)) < (data.n : Int) ∧ (unSome data.p (fun a2 =>
  ∃ x1 : Int, rd H1 (a2.add ((IntKind.i64.wrap (a + i)).toNat * 1)) = some (.int .i64 x1) ∧ (
  0 ≤ (IntKind.i64.wrap (a + i)) ∧ (IntKind.i64.wrap (a + i)) < (data.n : Int) ∧ (unSome data.p (fun a3 =>
  okRow H1 (a3.add ((IntKind.i64.wrap (a + i)).toNat * 1)) 1 ∧ (
  letH (wrs H1 (a3.add ((IntKind.i64.wrap (a + i)).toNat * 1)) [.int .i64 x]) (fun H2 : Heap =>
  0 ≤ (IntKind.i64.wrap (b + i)) ∧ (IntKind.i64.wrap (b + i)) < (data.n : Int) ∧ (unSome data.p (fun a4 =>
  okRow H2 (a4.add ((IntKind.i64.wrap (b + i)).toNat * 1)) 1 ∧ (
  letH (wrs H2 (a4.add ((IntKind.i64.wrap (b + i)).toNat * 1)) [.int .i64 x1]) (fun H3 : Heap =>
  letV (IntKind.i64.wrap (i + (1 : Int))) (fun i1 : Int =>
  I_ i1 H3 ∧ M_ i1 H3 < M_ i H1)))))))))))))))) (
  R (.tuple #[]) H1)

def F_slices_swapRangeCmpFunc_int (R : Value → Heap → Prop) (data : Sl) (a : Int) (b : Int) (n : Int) (cap : Addr) (H : Heap) : Prop :=
  ∃ I_ : Int → Heap → Prop, ∃ M_ : Int → Heap → Nat, I_ (0 : Int) H ∧ (∀ i : Int, ∀ H1 : Heap, I_ i H1 → F_slices_swapRangeCmpFunc_int_r1 R data a b n I_ M_ i H1)

theorem F_slices_swapRangeCmpFunc_int_eq (R : Value → Heap → Prop) (data : Sl) (a : Int) (b : Int) (n : Int) (cap : Addr) (H : Heap) : wpF Tryd.prog Tryd.f75 [(10, .int .i64 0)] [] [(1, [10], [0, 1, 2, 3])] [6] [.slice data.p data.n data.c, .int .i64 a, .int .i64 b, .int .i64 n, .func (.func 39) #[] #[.pointer (some cap)]] H R = F_slices_swapRangeCmpFunc_int R data a b n cap H := by kernel_rfl

theorem F_slices_swapRangeCmpFunc_int_ok {R : Value → Heap → Prop} (data : Sl) (a : Int) (b : Int) (n : Int) (cap : Addr) {H : Heap} (h : F_slices_swapRangeCmpFunc_int R data a b n cap H) : CallsH Tryd.prog n_slices_swapRangeCmpFunc_int #[.slice data.p data.n data.c, .int .i64 a, .int .i64 b, .int .i64 n, .func (.func 39) #[] #[.pointer (some cap)]] H R :=
  wpF_ok Tryd.func75 (F_slices_swapRangeCmpFunc_int_eq R data a b n cap H) h

/-! ### 102: gosem.cut.vars -/

def F_gosem_cut_vars (R : Value → Heap → Prop)  (H : Heap) : Prop :=
  okRow H (⟨0, 0, none⟩ : Addr) 32 ∧ (
  letH (wrs H (⟨0, 0, none⟩ : Addr) [.int .u8 (0 : Int), .int .u8 (1 : Int), .int .u8 (28 : Int), .int .u8 (2 : Int), .int .u8 (29 : Int), .int .u8 (14 : Int), .int .u8 (24 : Int), .int .u8 (3 : Int), .int .u8 (30 : Int), .int .u8 (22 : Int), .int .u8 (20 : Int), .int .u8 (15 : Int), .int .u8 (25 : Int), .int .u8 (17 : Int), .int .u8 (4 : Int), .int .u8 (8 : Int), .int .u8 (31 : Int), .int .u8 (27 : Int), .int .u8 (13 : Int), .int .u8 (23 : Int), .int .u8 (21 : Int), .int .u8 (19 : Int), .int .u8 (16 : Int), .int .u8 (7 : Int), .int .u8 (26 : Int), .int .u8 (12 : Int), .int .u8 (18 : Int), .int .u8 (6 : Int), .int .u8 (11 : Int), .int .u8 (5 : Int), .int .u8 (10 : Int), .int .u8 (9 : Int)]) (fun H1 : Heap =>
  R (.tuple #[]) H1))

theorem F_gosem_cut_vars_eq (R : Value → Heap → Prop)  (H : Heap) : wpF Tryd.prog Tryd.f102 [] [] [] [6] [] H R = F_gosem_cut_vars R  H := by kernel_rfl

theorem F_gosem_cut_vars_ok {R : Value → Heap → Prop}  {H : Heap} (h : F_gosem_cut_vars R  H) : CallsH Tryd.prog n_gosem_cut_vars #[] H R :=
  wpF_ok Tryd.func102 (F_gosem_cut_vars_eq R  H) h

end Go.Proofs.YtinhkngomojheaaDoor
