/-
  The shallow readings of this seat's functions, written by a program (gen.py); the kernel holds each against the loaded program.
-/
import Derived.Test.YtigcheamheiopaaGreatProg
import Derived.Test.YtigcheamheiopaaGreatEngS
namespace Go.Proofs.YtigcheamheiopaaGreat
open Go.Eng
set_option linter.unusedVariables false
abbrev n_law21_AllocateAssigns : FuncId := 3
abbrev n_law21_AllocateWrites : FuncId := 4
abbrev n_gen_Topology : FuncId := 5
abbrev n_allocate_Assign : FuncId := 6
abbrev n_ref21_Assign : FuncId := 7
abbrev n_help_Equal_api_Assignment : FuncId := 8
abbrev n_allocate_ValidHost : FuncId := 9
abbrev n_ref21_ValidHost : FuncId := 10
abbrev n_gen_Host : FuncId := 11
abbrev n_law21_awake : FuncId := 12
abbrev n_allocate_Writes : FuncId := 13
abbrev n_help_Equal_api_ConfigOp : FuncId := 14
abbrev n_ref21_Writes : FuncId := 15
abbrev n_pciconf_New : FuncId := 16
abbrev n_pciconf_Device_Write : FuncId := 17
abbrev n_pciconf_Device_Windows : FuncId := 18
abbrev n_help_Equal_api_Window : FuncId := 19
abbrev n_help_Mod : FuncId := 20
abbrev n_gen_bars : FuncId := 21
abbrev n_enumerate_Valid : FuncId := 22
abbrev n_resources_Needs : FuncId := 23
abbrev n_allocate_hostFree : FuncId := 24
abbrev n_allocate_window : FuncId := 25
abbrev n_allocate_placeBelow : FuncId := 26
abbrev n_ref18_Valid : FuncId := 27
abbrev n_ref18_Needs : FuncId := 28
abbrev n_ref21_place : FuncId := 29
abbrev n_ref21_Space : FuncId := 30
abbrev n_ref21_at : FuncId := 31
abbrev n_allocate_validRanges : FuncId := 32
abbrev n_allocate_within : FuncId := 33
abbrev n_ref21_within : FuncId := 34
abbrev n_gen_ranges : FuncId := 35
abbrev n_allocate_Place : FuncId := 36
abbrev n_help_Equal_uint64 : FuncId := 37
abbrev n_allocate_Refutes : FuncId := 38
abbrev n_allocate_covers : FuncId := 39
abbrev n_allocate_barWrites : FuncId := 40
abbrev n_allocate_bridgeWrites : FuncId := 41
abbrev n_allocate_write : FuncId := 42
abbrev n_ref21_needed : FuncId := 43
abbrev n_ref21_op : FuncId := 44
abbrev n_ref21_windows : FuncId := 45
abbrev n_pciconf_Valid : FuncId := 46
abbrev n_pciconf_registers : FuncId := 47
abbrev n_pciconf_Device_define : FuncId := 48
abbrev n_pciconf_Device_defineBar : FuncId := 49
abbrev n_pciconf_Device_defineBridge : FuncId := 50
abbrev n_pciconf_wellFormed : FuncId := 51
abbrev n_pciconf_Device_number : FuncId := 52
abbrev n_pciconf_Device_enabled : FuncId := 53
abbrev n_pciconf_Device_appendWindow : FuncId := 54
abbrev n_resources_registers : FuncId := 55
abbrev n_resources_windows : FuncId := 56
abbrev n_resources_largest : FuncId := 57
abbrev n_allocate_Free : FuncId := 58
abbrev n_ref18_ValidFunction : FuncId := 59
abbrev n_ref18_Class : FuncId := 60
abbrev n_ref18_window : FuncId := 61
abbrev n_ref18_NeedsBelow : FuncId := 62
abbrev n_ref21_Place : FuncId := 63
abbrev n_ref21_Free : FuncId := 64
abbrev n_ref21_ValidRanges : FuncId := 65
abbrev n_allocate_placeable : FuncId := 66
abbrev n_slices_SortStableFunc_sl_int_int : FuncId := 67
abbrev n_allocate_Place_1 : FuncId := 68
abbrev n_cmp_Compare_int : FuncId := 69
abbrev n_allocate_merged : FuncId := 70
abbrev n_allocate_take : FuncId := 71
abbrev n_allocate_certificate : FuncId := 72
abbrev n_allocate_demand : FuncId := 73
abbrev n_allocate_Blocks : FuncId := 74
abbrev n_ref21_span : FuncId := 75
abbrev n_pciconf_validBar : FuncId := 76
abbrev n_resources_classOf : FuncId := 77
abbrev n_resources_prefAbove : FuncId := 78
abbrev n_resources_WindowSize : FuncId := 79
abbrev n_ref18_Registers : FuncId := 80
abbrev n_ref18_bar : FuncId := 81
abbrev n_ref18_above : FuncId := 82
abbrev n_ref18_WindowSize : FuncId := 83
abbrev n_ref21_items : FuncId := 84
abbrev n_ref21_merge : FuncId := 85
abbrev n_ref21_up : FuncId := 86
abbrev n_ref21_refusal : FuncId := 87
abbrev n_ref21_remove : FuncId := 88
abbrev n_slices_stableCmpFunc_int : FuncId := 89
abbrev n_cmp_isNaN_int : FuncId := 90
abbrev n_slices_Clone_sl_api_Range_api_Range : FuncId := 91
abbrev n_slices_SortFunc_sl_api_Range_api_Range : FuncId := 92
abbrev n_allocate_merged_1 : FuncId := 93
abbrev n_cmp_Compare_uint64 : FuncId := 94
abbrev n_slices_Replace_sl_api_Range_api_Range : FuncId := 95
abbrev n_allocate_countBlocks : FuncId := 96
abbrev n_math_bits_Len64 : FuncId := 97
abbrev n_ref21_demand : FuncId := 98
abbrev n_ref21_Blocks : FuncId := 99
abbrev n_slices_insertionSortCmpFunc_int : FuncId := 100
abbrev n_slices_symMergeCmpFunc_int : FuncId := 101
abbrev n_slices_pdqsortCmpFunc_api_Range : FuncId := 102
abbrev n_math_bits_Len : FuncId := 103
abbrev n_cmp_isNaN_uint64 : FuncId := 104
abbrev n_slices_Insert_sl_api_Range_api_Range : FuncId := 105
abbrev n_slices_overlaps_api_Range : FuncId := 106
abbrev n_slices_rotateRight_api_Range : FuncId := 107
abbrev n_slices_startIdx_api_Range : FuncId := 108
abbrev n_slices_rotateCmpFunc_int : FuncId := 109
abbrev n_slices_insertionSortCmpFunc_api_Range : FuncId := 110
abbrev n_slices_heapSortCmpFunc_api_Range : FuncId := 111
abbrev n_slices_breakPatternsCmpFunc_api_Range : FuncId := 112
abbrev n_slices_choosePivotCmpFunc_api_Range : FuncId := 113
abbrev n_slices_reverseRangeCmpFunc_api_Range : FuncId := 114
abbrev n_slices_partialInsertionSortCmpFunc_api_Range : FuncId := 115
abbrev n_slices_partitionEqualCmpFunc_api_Range : FuncId := 116
abbrev n_slices_partitionCmpFunc_api_Range : FuncId := 117
abbrev n_math_bits_Len32 : FuncId := 118
abbrev n_slices_rotateLeft_api_Range : FuncId := 119
abbrev n_slices_swapRangeCmpFunc_int : FuncId := 120
abbrev n_slices_siftDownCmpFunc_api_Range : FuncId := 121
abbrev n_slices_nextPowerOfTwo : FuncId := 122
abbrev n_slices_xorshift_Next : FuncId := 123
abbrev n_slices_medianAdjacentCmpFunc_api_Range : FuncId := 124
abbrev n_slices_medianCmpFunc_api_Range : FuncId := 125
abbrev n_slices_Reverse_sl_api_Range_api_Range : FuncId := 126
abbrev n_slices_order2CmpFunc_api_Range : FuncId := 127
abbrev n_runtime_boundsError_Error : FuncId := 128
abbrev n_runtime_boundsError_RuntimeError : FuncId := 129
abbrev n_runtime_errorString_Error : FuncId := 130
abbrev n_runtime_errorString_RuntimeError : FuncId := 131
abbrev n_runtime_plainError_Error : FuncId := 132
abbrev n_runtime_plainError_RuntimeError : FuncId := 133
abbrev n_runtime_errorAddressString_Error : FuncId := 134
abbrev n_runtime_errorAddressString_RuntimeError : FuncId := 135
abbrev n_runtime_TypeAssertionError_Error : FuncId := 136
abbrev n_runtime_TypeAssertionError_RuntimeError : FuncId := 137
abbrev n_runtime_PanicNilError_Error : FuncId := 138
abbrev n_runtime_PanicNilError_RuntimeError : FuncId := 139
abbrev n_internal_abi_Type_Align : FuncId := 140
abbrev n_internal_runtime_maps_unhashableTypeError_Error : FuncId := 141
abbrev n_internal_runtime_maps_unhashableTypeError_RuntimeError : FuncId := 142
abbrev n_internal_abi_Kind_String : FuncId := 143
abbrev t_int64 : TypeId := 2
abbrev t_int : TypeId := 3
abbrev t_bool : TypeId := 4
abbrev t_uint8 : TypeId := 5
abbrev t_abi_BoundsErrorCode : TypeId := 6
abbrev t_runtime_boundsError : TypeId := 8
abbrev t_string : TypeId := 9
abbrev t_runtime_errorString : TypeId := 10
abbrev t_runtime_plainError : TypeId := 11
abbrev t_uintptr : TypeId := 12
abbrev t_runtime_errorAddressString : TypeId := 14
abbrev t_p_runtime_TypeAssertionError : TypeId := 15
abbrev t_p_runtime_PanicNilError : TypeId := 16
abbrev t_p_abi_Type : TypeId := 17
abbrev t_maps_unhashableTypeError : TypeId := 19
abbrev t_int32 : TypeId := 21
abbrev t_sl_api_Function : TypeId := 22
abbrev t_sl_api_Range : TypeId := 23
abbrev t_sl_api_IntLink : TypeId := 24
abbrev t_sl_api_Route : TypeId := 25
abbrev t_api_Host : TypeId := 27
abbrev t_sl_api_Assignment : TypeId := 29
abbrev t_uint64 : TypeId := 30
abbrev t_api_Certificate : TypeId := 32
abbrev t_api_Errno : TypeId := 33
abbrev t_api_Need : TypeId := 38
abbrev t_api_Assignment : TypeId := 40
abbrev t_sl_api_ConfigOp : TypeId := 45
abbrev t_api_ConfigOp : TypeId := 49
abbrev t_p_pciconf_Device : TypeId := 50
abbrev t_sl_api_Bar : TypeId := 53
abbrev t_api_Function : TypeId := 55
abbrev t_sl_api_Window : TypeId := 57
abbrev t_api_Range : TypeId := 60
abbrev t_api_Window : TypeId := 62
abbrev t_uint : TypeId := 63
abbrev t_map_2_int_bool : TypeId := 65
abbrev t_sl_int : TypeId := 66
abbrev t_2_int : TypeId := 68
abbrev t_sl_api_Need : TypeId := 71
abbrev t_sl_sl_api_Range : TypeId := 81
abbrev t_api_Route : TypeId := 85
abbrev t_uint32 : TypeId := 87
abbrev t_api_IntLink : TypeId := 89
abbrev t_sl_uint64 : TypeId := 90
abbrev t_api_Bar : TypeId := 101
abbrev t_256_uint8 : TypeId := 105
abbrev t_pciconf_Device : TypeId := 107
abbrev t_map_enumerate_place_bool : TypeId := 114
abbrev t_enumerate_place : TypeId := 116
abbrev t_sl_sl_api_Need : TypeId := 117
abbrev t_sl__3_sl_int : TypeId := 118
abbrev t_3_sl_int : TypeId := 121
abbrev t_3_int : TypeId := 127
abbrev t_slices_sortedHint : TypeId := 163
abbrev t_p_api_Range : TypeId := 170
abbrev t_slices_xorshift : TypeId := 171
abbrev t_p_int : TypeId := 175
abbrev t_p_slices_xorshift : TypeId := 178
abbrev t_runtime_TypeAssertionError : TypeId := 183
abbrev t_0_p_runtime_PanicNilError : TypeId := 184
abbrev t_runtime_PanicNilError : TypeId := 186
abbrev t_abi_TFlag : TypeId := 188
abbrev t_abi_Kind : TypeId := 189
abbrev t_p_uint8 : TypeId := 191
abbrev t_abi_NameOff : TypeId := 192
abbrev t_abi_TypeOff : TypeId := 193
abbrev t_abi_Type : TypeId := 195
abbrev t_unsafe_Pointer : TypeId := 196
def cstr_0 : ByteArray := ⟨#[0, 1, 2, 2, 3, 3, 3, 3, 4, 4, 4, 4, 4, 4, 4, 4, 5, 5, 5, 5, 5, 5, 5, 5, 5, 5, 5, 5, 5, 5, 5, 5, 6, 6, 6, 6, 6, 6, 6, 6, 6, 6, 6, 6, 6, 6, 6, 6, 6, 6, 6, 6, 6, 6, 6, 6, 6, 6, 6, 6, 6, 6, 6, 6, 7, 7, 7, 7, 7, 7, 7, 7, 7, 7, 7, 7, 7, 7, 7, 7, 7, 7, 7, 7, 7, 7, 7, 7, 7, 7, 7, 7, 7, 7, 7, 7, 7, 7, 7, 7, 7, 7, 7, 7, 7, 7, 7, 7, 7, 7, 7, 7, 7, 7, 7, 7, 7, 7, 7, 7, 7, 7, 7, 7, 7, 7, 7, 7, 8, 8, 8, 8, 8, 8, 8, 8, 8, 8, 8, 8, 8, 8, 8, 8, 8, 8, 8, 8, 8, 8, 8, 8, 8, 8, 8, 8, 8, 8, 8, 8, 8, 8, 8, 8, 8, 8, 8, 8, 8, 8, 8, 8, 8, 8, 8, 8, 8, 8, 8, 8, 8, 8, 8, 8, 8, 8, 8, 8, 8, 8, 8, 8, 8, 8, 8, 8, 8, 8, 8, 8, 8, 8, 8, 8, 8, 8, 8, 8, 8, 8, 8, 8, 8, 8, 8, 8, 8, 8, 8, 8, 8, 8, 8, 8, 8, 8, 8, 8, 8, 8, 8, 8, 8, 8, 8, 8, 8, 8, 8, 8, 8, 8, 8, 8, 8, 8, 8, 8, 8, 8, 8, 8, 8, 8, 8, 8]⟩

/-! ### 3: platformfw/platformfwlaw21.AllocateAssigns -/

/-! ### 4: platformfw/platformfwlaw21.AllocateWrites -/

def F_law21_AllocateWrites_r1 (R : Value → Heap → Prop) (x24 : Sl) (I_ : Int → Heap → Prop) (M_ : Int → Heap → Nat) (i : Int) (H13 : Heap) (got : Sl) (I_3 : Sl → Int → Heap → Prop) (M_3 : Sl → Int → Heap → Nat) (want : Sl) (k6 : Int) (H21 : Heap) : Prop :=
  iteB (decide (k6 < (x24.n : Int))) (
  0 ≤ k6 ∧ k6 < (x24.n : Int) ∧ (unSome x24.p (fun a8 =>
  ∃ x54 : Int, rd H21 (a8.add (k6.toNat * 5)) = some (.int .i64 x54) ∧ (
  iteB (x54 == i) (
  0 ≤ k6 ∧ k6 < (x24.n : Int) ∧ (unSome x24.p (fun a9 =>
  ∃ x55 : Int, rd H21 ((a9.add (k6.toNat * 5)).add 1) = some (.int .i64 x55) ∧ (
  0 ≤ k6 ∧ k6 < (x24.n : Int) ∧ (unSome x24.p (fun a10 =>
  ∃ x56 : Int, rd H21 ((a10.add (k6.toNat * 5)).add 4) = some (.int .u64 x56) ∧ (
  0 ≤ k6 ∧ k6 < (x24.n : Int) ∧ (unSome x24.p (fun a11 =>
  ∃ x57 : Int, rd H21 ((a11.add (k6.toNat * 5)).add 3) = some (.int .i64 x57) ∧ (
  0 ≤ (IntKind.u64.wrap x57) ∧ (
  letH (H21.push (.cells #[.int .i64 x55, .int .i64 (0 : Int), .int .u64 x56, .int .u64 (IntKind.u64.wrap ((1 : Int) * 2 ^ (min (IntKind.u64.wrap x57).toNat IntKind.u64.bits))), .bool false] t_api_Window (0, 0))) (fun H22 : Heap =>
  runH Tryz.prog (Builtin.append_ #[t_sl_api_Window, t_sl_api_Window] t_sl_api_Window #[.slice want.p want.n want.c, .slice (some (⟨H21.size, 0, none⟩ : Addr)) 1 1]) H22 (fun v11 H23 =>
  ∃ want1 : Sl, v11 = .slice want1.p want1.n want1.c ∧ (
  letV (IntKind.i64.wrap (k6 + (1 : Int))) (fun k7 : Int =>
  I_3 want1 k7 H23 ∧ M_3 want1 k7 H23 < M_3 want k6 H21))))))))))))))) (
  letV (IntKind.i64.wrap (k6 + (1 : Int))) (fun k8 : Int =>
  I_3 want k8 H21 ∧ M_3 want k8 H21 < M_3 want k6 H21)))))) (
  CallsH Tryz.prog n_help_Equal_api_Window #[.slice got.p got.n got.c, .slice want.p want.n want.c] H21 (fun v12 H24 =>
  ∃ x58 : Bool, v12 = .bool x58 ∧ (
  iteB (!x58) (
  R (.bool false) H24) (
  letV (IntKind.i64.wrap (i + (1 : Int))) (fun i1 : Int =>
  I_ i1 H24 ∧ M_ i1 H24 < M_ i H13)))))

def F_law21_AllocateWrites_r2 (R : Value → Heap → Prop) (x24 : Sl) (I_ : Int → Heap → Prop) (M_ : Int → Heap → Nat) (i : Int) (H13 : Heap) (windows : Sl) (I_2 : Sl → Int → Heap → Prop) (M_2 : Sl → Int → Heap → Nat) (got : Sl) (k3 : Int) (H18 : Heap) : Prop :=
  iteB (decide (k3 < (windows.n : Int))) (
  0 ≤ k3 ∧ k3 < (windows.n : Int) ∧ (unSome windows.p (fun a5 =>
  ∃ x50 : Bool, rd H18 ((a5.add (k3.toNat * 5)).add 4) = some (.bool x50) ∧ (
  iteB x50 (
  0 ≤ k3 ∧ k3 < (windows.n : Int) ∧ (unSome windows.p (fun a6 =>
  ∃ x51 : Int, rd H18 (a6.add (k3.toNat * 5)) = some (.int .i64 x51) ∧ (
  0 ≤ k3 ∧ k3 < (windows.n : Int) ∧ (unSome windows.p (fun a7 =>
  ∃ x52 : Int, rd H18 ((a7.add (k3.toNat * 5)).add 2) = some (.int .u64 x52) ∧ ∃ x53 : Int, rd H18 (((a7.add (k3.toNat * 5)).add 2).add 1) = some (.int .u64 x53) ∧ (
  letH (H18.push (.cells #[.int .i64 x51, .int .i64 (0 : Int), .int .u64 x52, .int .u64 x53, .bool false] t_api_Window (0, 0))) (fun H19 : Heap =>
  runH Tryz.prog (Builtin.append_ #[t_sl_api_Window, t_sl_api_Window] t_sl_api_Window #[.slice got.p got.n got.c, .slice (some (⟨H18.size, 0, none⟩ : Addr)) 1 1]) H19 (fun v10 H20 =>
  ∃ got1 : Sl, v10 = .slice got1.p got1.n got1.c ∧ (
  letV (IntKind.i64.wrap (k3 + (1 : Int))) (fun k4 : Int =>
  I_2 got1 k4 H20 ∧ M_2 got1 k4 H20 < M_2 got k3 H18))))))))))) (
  letV (IntKind.i64.wrap (k3 + (1 : Int))) (fun k5 : Int =>
  I_2 got k5 H18 ∧ M_2 got k5 H18 < M_2 got k3 H18)))))) (
  ∃ I_3 : Sl → Int → Heap → Prop, ∃ M_3 : Sl → Int → Heap → Nat, I_3 (Sl.mk none 0 0) (0 : Int) H18 ∧ (∀ want : Sl, ∀ k6 : Int, ∀ H21 : Heap, I_3 want k6 H21 → F_law21_AllocateWrites_r1 R x24 I_ M_ i H13 got I_3 M_3 want k6 H21))

def F_law21_AllocateWrites_r3 (R : Value → Heap → Prop) (x24 : Sl) (w : Sl) (I_ : Int → Heap → Prop) (M_ : Int → Heap → Nat) (i : Int) (H13 : Heap) (x44 : Option Addr) (I_1 : Int → Heap → Prop) (M_1 : Int → Heap → Nat) (k : Int) (H15 : Heap) : Prop :=
  iteB (decide (k < (w.n : Int))) (
  0 ≤ k ∧ k < (w.n : Int) ∧ (unSome w.p (fun a1 =>
  ∃ x46 : Int, rd H15 (a1.add (k.toNat * 5)) = some (.int .i64 x46) ∧ (
  iteB (x46 == i) (
  0 ≤ k ∧ k < (w.n : Int) ∧ (unSome w.p (fun a2 =>
  ∃ x47 : Int, rd H15 ((a2.add (k.toNat * 5)).add 1) = some (.int .i64 x47) ∧ (
  0 ≤ k ∧ k < (w.n : Int) ∧ (unSome w.p (fun a3 =>
  ∃ x48 : Int, rd H15 ((a3.add (k.toNat * 5)).add 2) = some (.int .i64 x48) ∧ (
  0 ≤ k ∧ k < (w.n : Int) ∧ (unSome w.p (fun a4 =>
  ∃ x49 : Int, rd H15 ((a4.add (k.toNat * 5)).add 4) = some (.int .u64 x49) ∧ (
  CallsH Tryz.prog n_pciconf_Device_Write #[.pointer x44, .int .i64 x47, .int .i64 x48, .int .u64 x49] H15 (fun v8 H16 =>
  v8 = .tuple #[] ∧ (
  letV (IntKind.i64.wrap (k + (1 : Int))) (fun k1 : Int =>
  I_1 k1 H16 ∧ M_1 k1 H16 < M_1 k H15))))))))))))) (
  letV (IntKind.i64.wrap (k + (1 : Int))) (fun k2 : Int =>
  I_1 k2 H15 ∧ M_1 k2 H15 < M_1 k H15)))))) (
  CallsH Tryz.prog n_pciconf_Device_Windows #[.pointer x44] H15 (fun v9 H17 =>
  ∃ windows : Sl, v9 = .slice windows.p windows.n windows.c ∧ (
  ∃ I_2 : Sl → Int → Heap → Prop, ∃ M_2 : Sl → Int → Heap → Nat, I_2 (Sl.mk none 0 0) (0 : Int) H17 ∧ (∀ got : Sl, ∀ k3 : Int, ∀ H18 : Heap, I_2 got k3 H18 → F_law21_AllocateWrites_r2 R x24 I_ M_ i H13 windows I_2 M_2 got k3 H18))))

def F_law21_AllocateWrites_r4 (R : Value → Heap → Prop) (t : Sl) (x24 : Sl) (w : Sl) (I_ : Int → Heap → Prop) (M_ : Int → Heap → Nat) (i : Int) (H13 : Heap) : Prop :=
  iteB (decide (i < (t.n : Int))) (
  0 ≤ i ∧ i < (t.n : Int) ∧ (unSome t.p (fun a =>
  ∃ x33 : Int, rd H13 (a.add (i.toNat * 11)) = some (.int .i64 x33) ∧ ∃ x34 : Int, rd H13 ((a.add (i.toNat * 11)).add 1) = some (.int .i64 x34) ∧ ∃ x35 : Int, rd H13 ((a.add (i.toNat * 11)).add 2) = some (.int .i64 x35) ∧ ∃ x36 : Int, rd H13 ((a.add (i.toNat * 11)).add 3) = some (.int .i64 x36) ∧ ∃ x37 : Bool, rd H13 ((a.add (i.toNat * 11)).add 4) = some (.bool x37) ∧ ∃ x38 : Bool, rd H13 ((a.add (i.toNat * 11)).add 5) = some (.bool x38) ∧ ∃ x39 : Bool, rd H13 ((a.add (i.toNat * 11)).add 6) = some (.bool x39) ∧ ∃ x40 : Int, rd H13 ((a.add (i.toNat * 11)).add 7) = some (.int .i64 x40) ∧ ∃ x41 : Int, rd H13 ((a.add (i.toNat * 11)).add 8) = some (.int .i64 x41) ∧ ∃ x42 : Int, rd H13 ((a.add (i.toNat * 11)).add 9) = some (.int .i64 x42) ∧ ∃ x43 : Sl, rd H13 ((a.add (i.toNat * 11)).add 10) = some (.slice x43.p x43.n x43.c) ∧ (
  CallsH Tryz.prog n_pciconf_New #[.agg #[.int .i64 x33, .int .i64 x34, .int .i64 x35, .int .i64 x36, .bool x37, .bool x38, .bool x39, .int .i64 x40, .int .i64 x41, .int .i64 x42, .slice x43.p x43.n x43.c]] H13 (fun v7 H14 =>
  ∃ x44 : Option Addr, ∃ x45 : Int, v7 = .tuple #[.pointer x44, .int .i64 x45] ∧ (
  iteB (x45 != (0 : Int)) (
  R (.bool false) H14) (
  iteB x44.isNone (
  R (.bool false) H14) (
  ∃ I_1 : Int → Heap → Prop, ∃ M_1 : Int → Heap → Nat, I_1 (0 : Int) H14 ∧ (∀ k : Int, ∀ H15 : Heap, I_1 k H15 → F_law21_AllocateWrites_r3 R x24 w I_ M_ i H13 x44 I_1 M_1 k H15))))))))) (
  R (.bool true) H13)

def F_law21_AllocateWrites_r5 (R : Value → Heap → Prop) (x75 : Sl) (I_4 : Int → Heap → Prop) (M_4 : Int → Heap → Nat) (i2 : Int) (H35 : Heap) (got2 : Sl) (I_7 : Sl → Int → Heap → Prop) (M_7 : Sl → Int → Heap → Nat) (want2 : Sl) (k15 : Int) (H43 : Heap) : Prop :=
  iteB (decide (k15 < (x75.n : Int))) (
  0 ≤ k15 ∧ k15 < (x75.n : Int) ∧ (unSome x75.p (fun a20 =>
  ∃ x105 : Int, rd H43 (a20.add (k15.toNat * 5)) = some (.int .i64 x105) ∧ (
  iteB (x105 == i2) (
  0 ≤ k15 ∧ k15 < (x75.n : Int) ∧ (unSome x75.p (fun a21 =>
  ∃ x106 : Int, rd H43 ((a21.add (k15.toNat * 5)).add 1) = some (.int .i64 x106) ∧ (
  0 ≤ k15 ∧ k15 < (x75.n : Int) ∧ (unSome x75.p (fun a22 =>
  ∃ x107 : Int, rd H43 ((a22.add (k15.toNat * 5)).add 4) = some (.int .u64 x107) ∧ (
  0 ≤ k15 ∧ k15 < (x75.n : Int) ∧ (unSome x75.p (fun a23 =>
  ∃ x108 : Int, rd H43 ((a23.add (k15.toNat * 5)).add 3) = some (.int .i64 x108) ∧ (
  0 ≤ (IntKind.u64.wrap x108) ∧ (
  letH (H43.push (.cells #[.int .i64 x106, .int .i64 (0 : Int), .int .u64 x107, .int .u64 (IntKind.u64.wrap ((1 : Int) * 2 ^ (min (IntKind.u64.wrap x108).toNat IntKind.u64.bits))), .bool false] t_api_Window (0, 0))) (fun H44 : Heap =>
  runH Tryz.prog (Builtin.append_ #[t_sl_api_Window, t_sl_api_Window] t_sl_api_Window #[.slice want2.p want2.n want2.c, .slice (some (⟨H43.size, 0, none⟩ : Addr)) 1 1]) H44 (fun v23 H45 =>
  ∃ want3 : Sl, v23 = .slice want3.p want3.n want3.c ∧ (
  letV (IntKind.i64.wrap (k15 + (1 : Int))) (fun k16 : Int =>
  I_7 want3 k16 H45 ∧ M_7 want3 k16 H45 < M_7 want2 k15 H43))))))))))))))) (
  letV (IntKind.i64.wrap (k15 + (1 : Int))) (fun k17 : Int =>
  I_7 want2 k17 H43 ∧ M_7 want2 k17 H43 < M_7 want2 k15 H43)))))) (
  CallsH Tryz.prog n_help_Equal_api_Window #[.slice got2.p got2.n got2.c, .slice want2.p want2.n want2.c] H43 (fun v24 H46 =>
  ∃ x109 : Bool, v24 = .bool x109 ∧ (
  iteB (!x109) (
  R (.bool false) H46) (
  letV (IntKind.i64.wrap (i2 + (1 : Int))) (fun i3 : Int =>
  I_4 i3 H46 ∧ M_4 i3 H46 < M_4 i2 H35)))))

def F_law21_AllocateWrites_r6 (R : Value → Heap → Prop) (x75 : Sl) (I_4 : Int → Heap → Prop) (M_4 : Int → Heap → Nat) (i2 : Int) (H35 : Heap) (windows1 : Sl) (I_6 : Sl → Int → Heap → Prop) (M_6 : Sl → Int → Heap → Nat) (got2 : Sl) (k12 : Int) (H40 : Heap) : Prop :=
  iteB (decide (k12 < (windows1.n : Int))) (
  0 ≤ k12 ∧ k12 < (windows1.n : Int) ∧ (unSome windows1.p (fun a17 =>
  ∃ x101 : Bool, rd H40 ((a17.add (k12.toNat * 5)).add 4) = some (.bool x101) ∧ (
  iteB x101 (
  0 ≤ k12 ∧ k12 < (windows1.n : Int) ∧ (unSome windows1.p (fun a18 =>
  ∃ x102 : Int, rd H40 (a18.add (k12.toNat * 5)) = some (.int .i64 x102) ∧ (
  0 ≤ k12 ∧ k12 < (windows1.n : Int) ∧ (unSome windows1.p (fun a19 =>
  ∃ x103 : Int, rd H40 ((a19.add (k12.toNat * 5)).add 2) = some (.int .u64 x103) ∧ ∃ x104 : Int, rd H40 (((a19.add (k12.toNat * 5)).add 2).add 1) = some (.int .u64 x104) ∧ (
  letH (H40.push (.cells #[.int .i64 x102, .int .i64 (0 : Int), .int .u64 x103, .int .u64 x104, .bool false] t_api_Window (0, 0))) (fun H41 : Heap =>
  runH Tryz.prog (Builtin.append_ #[t_sl_api_Window, t_sl_api_Window] t_sl_api_Window #[.slice got2.p got2.n got2.c, .slice (some (⟨H40.size, 0, none⟩ : Addr)) 1 1]) H41 (fun v22 H42 =>
  ∃ got3 : Sl, v22 = .slice got3.p got3.n got3.c ∧ (
  letV (IntKind.i64.wrap (k12 + (1 : Int))) (fun k13 : Int =>
  I_6 got3 k13 H42 ∧ M_6 got3 k13 H42 < M_6 got2 k12 H40))))))))))) (
  letV (IntKind.i64.wrap (k12 + (1 : Int))) (fun k14 : Int =>
  I_6 got2 k14 H40 ∧ M_6 got2 k14 H40 < M_6 got2 k12 H40)))))) (
  ∃ I_7 : Sl → Int → Heap → Prop, ∃ M_7 : Sl → Int → Heap → Nat, I_7 (Sl.mk none 0 0) (0 : Int) H40 ∧ (∀ want2 : Sl, ∀ k15 : Int, ∀ H43 : Heap, I_7 want2 k15 H43 → F_law21_AllocateWrites_r5 R x75 I_4 M_4 i2 H35 got2 I_7 M_7 want2 k15 H43))

def F_law21_AllocateWrites_r7 (R : Value → Heap → Prop) (x75 : Sl) (w1 : Sl) (I_4 : Int → Heap → Prop) (M_4 : Int → Heap → Nat) (i2 : Int) (H35 : Heap) (x95 : Option Addr) (I_5 : Int → Heap → Prop) (M_5 : Int → Heap → Nat) (k9 : Int) (H37 : Heap) : Prop :=
  iteB (decide (k9 < (w1.n : Int))) (
  0 ≤ k9 ∧ k9 < (w1.n : Int) ∧ (unSome w1.p (fun a13 =>
  ∃ x97 : Int, rd H37 (a13.add (k9.toNat * 5)) = some (.int .i64 x97) ∧ (
  iteB (x97 == i2) (
  0 ≤ k9 ∧ k9 < (w1.n : Int) ∧ (unSome w1.p (fun a14 =>
  ∃ x98 : Int, rd H37 ((a14.add (k9.toNat * 5)).add 1) = some (.int .i64 x98) ∧ (
  0 ≤ k9 ∧ k9 < (w1.n : Int) ∧ (unSome w1.p (fun a15 =>
  ∃ x99 : Int, rd H37 ((a15.add (k9.toNat * 5)).add 2) = some (.int .i64 x99) ∧ (
  0 ≤ k9 ∧ k9 < (w1.n : Int) ∧ (unSome w1.p (fun a16 =>
  ∃ x100 : Int, rd H37 ((a16.add (k9.toNat * 5)).add 4) = some (.int .u64 x100) ∧ (
  CallsH Tryz.prog n_pciconf_Device_Write #[.pointer x95, .int .i64 x98, .int .i64 x99, .int .u64 x100] H37 (fun v20 H38 =>
  v20 = .tuple #[] ∧ (
  letV (IntKind.i64.wrap (k9 + (1 : Int))) (fun k10 : Int =>
  I_5 k10 H38 ∧ M_5 k10 H38 < M_5 k9 H37))))))))))))) (
  letV (IntKind.i64.wrap (k9 + (1 : Int))) (fun k11 : Int =>
  I_5 k11 H37 ∧ M_5 k11 H37 < M_5 k9 H37)))))) (
  CallsH Tryz.prog n_pciconf_Device_Windows #[.pointer x95] H37 (fun v21 H39 =>
  ∃ windows1 : Sl, v21 = .slice windows1.p windows1.n windows1.c ∧ (
  ∃ I_6 : Sl → Int → Heap → Prop, ∃ M_6 : Sl → Int → Heap → Nat, I_6 (Sl.mk none 0 0) (0 : Int) H39 ∧ (∀ got2 : Sl, ∀ k12 : Int, ∀ H40 : Heap, I_6 got2 k12 H40 → F_law21_AllocateWrites_r6 R x75 I_4 M_4 i2 H35 windows1 I_6 M_6 got2 k12 H40))))

def F_law21_AllocateWrites_r8 (R : Value → Heap → Prop) (t : Sl) (x75 : Sl) (w1 : Sl) (I_4 : Int → Heap → Prop) (M_4 : Int → Heap → Nat) (i2 : Int) (H35 : Heap) : Prop :=
  iteB (decide (i2 < (t.n : Int))) (
  0 ≤ i2 ∧ i2 < (t.n : Int) ∧ (unSome t.p (fun a12 =>
  ∃ x84 : Int, rd H35 (a12.add (i2.toNat * 11)) = some (.int .i64 x84) ∧ ∃ x85 : Int, rd H35 ((a12.add (i2.toNat * 11)).add 1) = some (.int .i64 x85) ∧ ∃ x86 : Int, rd H35 ((a12.add (i2.toNat * 11)).add 2) = some (.int .i64 x86) ∧ ∃ x87 : Int, rd H35 ((a12.add (i2.toNat * 11)).add 3) = some (.int .i64 x87) ∧ ∃ x88 : Bool, rd H35 ((a12.add (i2.toNat * 11)).add 4) = some (.bool x88) ∧ ∃ x89 : Bool, rd H35 ((a12.add (i2.toNat * 11)).add 5) = some (.bool x89) ∧ ∃ x90 : Bool, rd H35 ((a12.add (i2.toNat * 11)).add 6) = some (.bool x90) ∧ ∃ x91 : Int, rd H35 ((a12.add (i2.toNat * 11)).add 7) = some (.int .i64 x91) ∧ ∃ x92 : Int, rd H35 ((a12.add (i2.toNat * 11)).add 8) = some (.int .i64 x92) ∧ ∃ x93 : Int, rd H35 ((a12.add (i2.toNat * 11)).add 9) = some (.int .i64 x93) ∧ ∃ x94 : Sl, rd H35 ((a12.add (i2.toNat * 11)).add 10) = some (.slice x94.p x94.n x94.c) ∧ (
  CallsH Tryz.prog n_pciconf_New #[.agg #[.int .i64 x84, .int .i64 x85, .int .i64 x86, .int .i64 x87, .bool x88, .bool x89, .bool x90, .int .i64 x91, .int .i64 x92, .int .i64 x93, .slice x94.p x94.n x94.c]] H35 (fun v19 H36 =>
  ∃ x95 : Option Addr, ∃ x96 : Int, v19 = .tuple #[.pointer x95, .int .i64 x96] ∧ (
  iteB (x96 != (0 : Int)) (
  R (.bool false) H36) (
  iteB x95.isNone (
  R (.bool false) H36) (
  ∃ I_5 : Int → Heap → Prop, ∃ M_5 : Int → Heap → Nat, I_5 (0 : Int) H36 ∧ (∀ k9 : Int, ∀ H37 : Heap, I_5 k9 H37 → F_law21_AllocateWrites_r7 R x75 w1 I_4 M_4 i2 H35 x95 I_5 M_5 k9 H37))))))))) (
  R (.bool true) H35)

def F_law21_AllocateWrites_r9 (R : Value → Heap → Prop) (x126 : Sl) (I_8 : Int → Heap → Prop) (M_8 : Int → Heap → Nat) (i4 : Int) (H58 : Heap) (got4 : Sl) (I_11 : Sl → Int → Heap → Prop) (M_11 : Sl → Int → Heap → Nat) (want4 : Sl) (k24 : Int) (H66 : Heap) : Prop :=
  iteB (decide (k24 < (x126.n : Int))) (
  0 ≤ k24 ∧ k24 < (x126.n : Int) ∧ (unSome x126.p (fun a32 =>
  ∃ x156 : Int, rd H66 (a32.add (k24.toNat * 5)) = some (.int .i64 x156) ∧ (
  iteB (x156 == i4) (
  0 ≤ k24 ∧ k24 < (x126.n : Int) ∧ (unSome x126.p (fun a33 =>
  ∃ x157 : Int, rd H66 ((a33.add (k24.toNat * 5)).add 1) = some (.int .i64 x157) ∧ (
  0 ≤ k24 ∧ k24 < (x126.n : Int) ∧ (unSome x126.p (fun a34 =>
  ∃ x158 : Int, rd H66 ((a34.add (k24.toNat * 5)).add 4) = some (.int .u64 x158) ∧ (
  0 ≤ k24 ∧ k24 < (x126.n : Int) ∧ (unSome x126.p (fun a35 =>
  ∃ x159 : Int, rd H66 ((a35.add (k24.toNat * 5)).add 3) = some (.int .i64 x159) ∧ (
  0 ≤ (IntKind.u64.wrap x159) ∧ (
  letH (H66.push (.cells #[.int .i64 x157, .int .i64 (0 : Int), .int .u64 x158, .int .u64 (IntKind.u64.wrap ((1 : Int) * 2 ^ (min (IntKind.u64.wrap x159).toNat IntKind.u64.bits))), .bool false] t_api_Window (0, 0))) (fun H67 : Heap =>
  runH Tryz.prog (Builtin.append_ #[t_sl_api_Window, t_sl_api_Window] t_sl_api_Window #[.slice want4.p want4.n want4.c, .slice (some (⟨H66.size, 0, none⟩ : Addr)) 1 1]) H67 (fun v36 H68 =>
  ∃ want5 : Sl, v36 = .slice want5.p want5.n want5.c ∧ (
  letV (IntKind.i64.wrap (k24 + (1 : Int))) (fun k25 : Int =>
  I_11 want5 k25 H68 ∧ M_11 want5 k25 H68 < M_11 want4 k24 H66))))))))))))))) (
  letV (IntKind.i64.wrap (k24 + (1 : Int))) (fun k26 : Int =>
  I_11 want4 k26 H66 ∧ M_11 want4 k26 H66 < M_11 want4 k24 H66)))))) (
  CallsH Tryz.prog n_help_Equal_api_Window #[.slice got4.p got4.n got4.c, .slice want4.p want4.n want4.c] H66 (fun v37 H69 =>
  ∃ x160 : Bool, v37 = .bool x160 ∧ (
  iteB (!x160) (
  R (.bool false) H69) (
  letV (IntKind.i64.wrap (i4 + (1 : Int))) (fun i5 : Int =>
  I_8 i5 H69 ∧ M_8 i5 H69 < M_8 i4 H58)))))

def F_law21_AllocateWrites_r10 (R : Value → Heap → Prop) (x126 : Sl) (I_8 : Int → Heap → Prop) (M_8 : Int → Heap → Nat) (i4 : Int) (H58 : Heap) (windows2 : Sl) (I_10 : Sl → Int → Heap → Prop) (M_10 : Sl → Int → Heap → Nat) (got4 : Sl) (k21 : Int) (H63 : Heap) : Prop :=
  iteB (decide (k21 < (windows2.n : Int))) (
  0 ≤ k21 ∧ k21 < (windows2.n : Int) ∧ (unSome windows2.p (fun a29 =>
  ∃ x152 : Bool, rd H63 ((a29.add (k21.toNat * 5)).add 4) = some (.bool x152) ∧ (
  iteB x152 (
  0 ≤ k21 ∧ k21 < (windows2.n : Int) ∧ (unSome windows2.p (fun a30 =>
  ∃ x153 : Int, rd H63 (a30.add (k21.toNat * 5)) = some (.int .i64 x153) ∧ (
  0 ≤ k21 ∧ k21 < (windows2.n : Int) ∧ (unSome windows2.p (fun a31 =>
  ∃ x154 : Int, rd H63 ((a31.add (k21.toNat * 5)).add 2) = some (.int .u64 x154) ∧ ∃ x155 : Int, rd H63 (((a31.add (k21.toNat * 5)).add 2).add 1) = some (.int .u64 x155) ∧ (
  letH (H63.push (.cells #[.int .i64 x153, .int .i64 (0 : Int), .int .u64 x154, .int .u64 x155, .bool false] t_api_Window (0, 0))) (fun H64 : Heap =>
  runH Tryz.prog (Builtin.append_ #[t_sl_api_Window, t_sl_api_Window] t_sl_api_Window #[.slice got4.p got4.n got4.c, .slice (some (⟨H63.size, 0, none⟩ : Addr)) 1 1]) H64 (fun v35 H65 =>
  ∃ got5 : Sl, v35 = .slice got5.p got5.n got5.c ∧ (
  letV (IntKind.i64.wrap (k21 + (1 : Int))) (fun k22 : Int =>
  I_10 got5 k22 H65 ∧ M_10 got5 k22 H65 < M_10 got4 k21 H63))))))))))) (
  letV (IntKind.i64.wrap (k21 + (1 : Int))) (fun k23 : Int =>
  I_10 got4 k23 H63 ∧ M_10 got4 k23 H63 < M_10 got4 k21 H63)))))) (
  ∃ I_11 : Sl → Int → Heap → Prop, ∃ M_11 : Sl → Int → Heap → Nat, I_11 (Sl.mk none 0 0) (0 : Int) H63 ∧ (∀ want4 : Sl, ∀ k24 : Int, ∀ H66 : Heap, I_11 want4 k24 H66 → F_law21_AllocateWrites_r9 R x126 I_8 M_8 i4 H58 got4 I_11 M_11 want4 k24 H66))

def F_law21_AllocateWrites_r11 (R : Value → Heap → Prop) (x126 : Sl) (w2 : Sl) (I_8 : Int → Heap → Prop) (M_8 : Int → Heap → Nat) (i4 : Int) (H58 : Heap) (x146 : Option Addr) (I_9 : Int → Heap → Prop) (M_9 : Int → Heap → Nat) (k18 : Int) (H60 : Heap) : Prop :=
  iteB (decide (k18 < (w2.n : Int))) (
  0 ≤ k18 ∧ k18 < (w2.n : Int) ∧ (unSome w2.p (fun a25 =>
  ∃ x148 : Int, rd H60 (a25.add (k18.toNat * 5)) = some (.int .i64 x148) ∧ (
  iteB (x148 == i4) (
  0 ≤ k18 ∧ k18 < (w2.n : Int) ∧ (unSome w2.p (fun a26 =>
  ∃ x149 : Int, rd H60 ((a26.add (k18.toNat * 5)).add 1) = some (.int .i64 x149) ∧ (
  0 ≤ k18 ∧ k18 < (w2.n : Int) ∧ (unSome w2.p (fun a27 =>
  ∃ x150 : Int, rd H60 ((a27.add (k18.toNat * 5)).add 2) = some (.int .i64 x150) ∧ (
  0 ≤ k18 ∧ k18 < (w2.n : Int) ∧ (unSome w2.p (fun a28 =>
  ∃ x151 : Int, rd H60 ((a28.add (k18.toNat * 5)).add 4) = some (.int .u64 x151) ∧ (
  CallsH Tryz.prog n_pciconf_Device_Write #[.pointer x146, .int .i64 x149, .int .i64 x150, .int .u64 x151] H60 (fun v33 H61 =>
  v33 = .tuple #[] ∧ (
  letV (IntKind.i64.wrap (k18 + (1 : Int))) (fun k19 : Int =>
  I_9 k19 H61 ∧ M_9 k19 H61 < M_9 k18 H60))))))))))))) (
  letV (IntKind.i64.wrap (k18 + (1 : Int))) (fun k20 : Int =>
  I_9 k20 H60 ∧ M_9 k20 H60 < M_9 k18 H60)))))) (
  CallsH Tryz.prog n_pciconf_Device_Windows #[.pointer x146] H60 (fun v34 H62 =>
  ∃ windows2 : Sl, v34 = .slice windows2.p windows2.n windows2.c ∧ (
  ∃ I_10 : Sl → Int → Heap → Prop, ∃ M_10 : Sl → Int → Heap → Nat, I_10 (Sl.mk none 0 0) (0 : Int) H62 ∧ (∀ got4 : Sl, ∀ k21 : Int, ∀ H63 : Heap, I_10 got4 k21 H63 → F_law21_AllocateWrites_r10 R x126 I_8 M_8 i4 H58 windows2 I_10 M_10 got4 k21 H63))))

def F_law21_AllocateWrites_r12 (R : Value → Heap → Prop) (t1 : Sl) (x126 : Sl) (w2 : Sl) (I_8 : Int → Heap → Prop) (M_8 : Int → Heap → Nat) (i4 : Int) (H58 : Heap) : Prop :=
  iteB (decide (i4 < (t1.n : Int))) (
  0 ≤ i4 ∧ i4 < (t1.n : Int) ∧ (unSome t1.p (fun a24 =>
  ∃ x135 : Int, rd H58 (a24.add (i4.toNat * 11)) = some (.int .i64 x135) ∧ ∃ x136 : Int, rd H58 ((a24.add (i4.toNat * 11)).add 1) = some (.int .i64 x136) ∧ ∃ x137 : Int, rd H58 ((a24.add (i4.toNat * 11)).add 2) = some (.int .i64 x137) ∧ ∃ x138 : Int, rd H58 ((a24.add (i4.toNat * 11)).add 3) = some (.int .i64 x138) ∧ ∃ x139 : Bool, rd H58 ((a24.add (i4.toNat * 11)).add 4) = some (.bool x139) ∧ ∃ x140 : Bool, rd H58 ((a24.add (i4.toNat * 11)).add 5) = some (.bool x140) ∧ ∃ x141 : Bool, rd H58 ((a24.add (i4.toNat * 11)).add 6) = some (.bool x141) ∧ ∃ x142 : Int, rd H58 ((a24.add (i4.toNat * 11)).add 7) = some (.int .i64 x142) ∧ ∃ x143 : Int, rd H58 ((a24.add (i4.toNat * 11)).add 8) = some (.int .i64 x143) ∧ ∃ x144 : Int, rd H58 ((a24.add (i4.toNat * 11)).add 9) = some (.int .i64 x144) ∧ ∃ x145 : Sl, rd H58 ((a24.add (i4.toNat * 11)).add 10) = some (.slice x145.p x145.n x145.c) ∧ (
  CallsH Tryz.prog n_pciconf_New #[.agg #[.int .i64 x135, .int .i64 x136, .int .i64 x137, .int .i64 x138, .bool x139, .bool x140, .bool x141, .int .i64 x142, .int .i64 x143, .int .i64 x144, .slice x145.p x145.n x145.c]] H58 (fun v32 H59 =>
  ∃ x146 : Option Addr, ∃ x147 : Int, v32 = .tuple #[.pointer x146, .int .i64 x147] ∧ (
  iteB (x147 != (0 : Int)) (
  R (.bool false) H59) (
  iteB x146.isNone (
  R (.bool false) H59) (
  ∃ I_9 : Int → Heap → Prop, ∃ M_9 : Int → Heap → Nat, I_9 (0 : Int) H59 ∧ (∀ k18 : Int, ∀ H60 : Heap, I_9 k18 H60 → F_law21_AllocateWrites_r11 R x126 w2 I_8 M_8 i4 H58 x146 I_9 M_9 k18 H60))))))))) (
  R (.bool true) H58)

def F_law21_AllocateWrites (R : Value → Heap → Prop) (l : Sl) (h_0 : Int) (h_1 : Sl) (h_2 : Sl) (h_3 : Sl) (h_4 : Sl) (h_5 : Sl) (h_6 : Sl) (h_7 : Sl) (H : Heap) : Prop :=
  letH (H.push (.cells #[.int .i64 h_0, .slice h_1.p h_1.n h_1.c, .slice h_2.p h_2.n h_2.c, .slice h_3.p h_3.n h_3.c, .slice h_4.p h_4.n h_4.c, .slice h_5.p h_5.n h_5.c, .slice h_6.p h_6.n h_6.c, .slice h_7.p h_7.n h_7.c] t_api_Host (0, 0))) (fun H1 : Heap =>
  ∃ x : Int, rd H1 (⟨H.size, 0, none⟩ : Addr) = some (.int .i64 x) ∧ ∃ x1 : Sl, rd H1 ((⟨H.size, 0, none⟩ : Addr).add 1) = some (.slice x1.p x1.n x1.c) ∧ ∃ x2 : Sl, rd H1 ((⟨H.size, 0, none⟩ : Addr).add 2) = some (.slice x2.p x2.n x2.c) ∧ ∃ x3 : Sl, rd H1 ((⟨H.size, 0, none⟩ : Addr).add 3) = some (.slice x3.p x3.n x3.c) ∧ ∃ x4 : Sl, rd H1 ((⟨H.size, 0, none⟩ : Addr).add 4) = some (.slice x4.p x4.n x4.c) ∧ ∃ x5 : Sl, rd H1 ((⟨H.size, 0, none⟩ : Addr).add 5) = some (.slice x5.p x5.n x5.c) ∧ ∃ x6 : Sl, rd H1 ((⟨H.size, 0, none⟩ : Addr).add 6) = some (.slice x6.p x6.n x6.c) ∧ ∃ x7 : Sl, rd H1 ((⟨H.size, 0, none⟩ : Addr).add 7) = some (.slice x7.p x7.n x7.c) ∧ (
  (
  CallsH Tryz.prog n_gen_Topology #[.slice l.p l.n l.c, .int .i64 (24 : Int)] H1 (fun v H2 =>
  ∃ t : Sl, v = .slice t.p t.n t.c ∧ (
  Keeps H1 H2 [((⟨H.size, 0, none⟩ : Addr), 8)] ∧ (
  (
  CallsH Tryz.prog n_gen_Host #[.agg #[.int .i64 x, .slice x1.p x1.n x1.c, .slice x2.p x2.n x2.c, .slice x3.p x3.n x3.c, .slice x4.p x4.n x4.c, .slice x5.p x5.n x5.c, .slice x6.p x6.n x6.c, .slice x7.p x7.n x7.c]] H2 (fun v1 H3 =>
  ∃ x8 : Int, ∃ x9 : Sl, ∃ x10 : Sl, ∃ x11 : Sl, ∃ x12 : Sl, ∃ x13 : Sl, ∃ x14 : Sl, ∃ x15 : Sl, v1 = .agg #[.int .i64 x8, .slice x9.p x9.n x9.c, .slice x10.p x10.n x10.c, .slice x11.p x11.n x11.c, .slice x12.p x12.n x12.c, .slice x13.p x13.n x13.c, .slice x14.p x14.n x14.c, .slice x15.p x15.n x15.c] ∧ (
  letH (H3.push (.cells #[.int .i64 (0 : Int), .slice none 0 0, .slice none 0 0, .slice none 0 0, .slice none 0 0, .slice none 0 0, .slice none 0 0, .slice none 0 0] t_api_Host (0, 0))) (fun H4 : Heap =>
  Keeps H3 H4 [((⟨H.size, 0, none⟩ : Addr), 8)] ∧ (
  okRow H4 (⟨H3.size, 0, none⟩ : Addr) 8 ∧ (
  letH (wrs H4 (⟨H3.size, 0, none⟩ : Addr) [.int .i64 x8, .slice x9.p x9.n x9.c, .slice x10.p x10.n x10.c, .slice x11.p x11.n x11.c, .slice x12.p x12.n x12.c, .slice x13.p x13.n x13.c, .slice x14.p x14.n x14.c, .slice x15.p x15.n x15.c]) (fun H5 : Heap =>
  ∃ x16 : Int, rd H5 (⟨H3.size, 0, none⟩ : Addr) = some (.int .i64 x16) ∧ ∃ x17 : Sl, rd H5 ((⟨H3.size, 0, none⟩ : Addr).add 1) = some (.slice x17.p x17.n x17.c) ∧ ∃ x18 : Sl, rd H5 ((⟨H3.size, 0, none⟩ : Addr).add 2) = some (.slice x18.p x18.n x18.c) ∧ ∃ x19 : Sl, rd H5 ((⟨H3.size, 0, none⟩ : Addr).add 3) = some (.slice x19.p x19.n x19.c) ∧ ∃ x20 : Sl, rd H5 ((⟨H3.size, 0, none⟩ : Addr).add 4) = some (.slice x20.p x20.n x20.c) ∧ ∃ x21 : Sl, rd H5 ((⟨H3.size, 0, none⟩ : Addr).add 5) = some (.slice x21.p x21.n x21.c) ∧ ∃ x22 : Sl, rd H5 ((⟨H3.size, 0, none⟩ : Addr).add 6) = some (.slice x22.p x22.n x22.c) ∧ ∃ x23 : Sl, rd H5 ((⟨H3.size, 0, none⟩ : Addr).add 7) = some (.slice x23.p x23.n x23.c) ∧ (
  CallsH Tryz.prog n_ref21_Assign #[.slice t.p t.n t.c, .agg #[.int .i64 x16, .slice x17.p x17.n x17.c, .slice x18.p x18.n x18.c, .slice x19.p x19.n x19.c, .slice x20.p x20.n x20.c, .slice x21.p x21.n x21.c, .slice x22.p x22.n x22.c, .slice x23.p x23.n x23.c]] H5 (fun v2 H6 =>
  ∃ x24 : Sl, ∃ x25 : Int, ∃ x26 : Int, ∃ x27 : Int, ∃ x28 : Int, ∃ x29 : Int, v2 = .tuple #[.slice x24.p x24.n x24.c, .agg #[.int .i64 x25, .int .i64 x26, .int .u64 x27, .int .u64 x28], .int .i64 x29] ∧ (
  letH (H6.push (.cells #[.int .i64 (0 : Int), .int .i64 (0 : Int), .int .u64 (0 : Int), .int .u64 (0 : Int)] t_api_Certificate (0, 0))) (fun H7 : Heap =>
  okRow H7 (⟨H6.size, 0, none⟩ : Addr) 4 ∧ (
  letH (wrs H7 (⟨H6.size, 0, none⟩ : Addr) [.int .i64 x25, .int .i64 x26, .int .u64 x27, .int .u64 x28]) (fun H8 : Heap =>
  CallsH Tryz.prog n_allocate_Writes #[.slice t.p t.n t.c, .slice x24.p x24.n x24.c] H8 (fun v3 H9 =>
  ∃ w : Sl, v3 = .slice w.p w.n w.c ∧ (
  CallsH Tryz.prog n_law21_awake #[] H9 (fun v4 H10 =>
  ∃ x30 : Bool, v4 = .bool x30 ∧ (
  iteB (!x30) (
  R (.bool false) H10) (
  CallsH Tryz.prog n_ref21_Writes #[.slice t.p t.n t.c, .slice x24.p x24.n x24.c] H10 (fun v5 H11 =>
  ∃ x31 : Sl, v5 = .slice x31.p x31.n x31.c ∧ (
  CallsH Tryz.prog n_help_Equal_api_ConfigOp #[.slice w.p w.n w.c, .slice x31.p x31.n x31.c] H11 (fun v6 H12 =>
  ∃ x32 : Bool, v6 = .bool x32 ∧ (
  iteB (!x32) (
  R (.bool false) H12) (
  iteB (x29 != (0 : Int)) (
  R (.bool true) H12) (
  ∃ I_ : Int → Heap → Prop, ∃ M_ : Int → Heap → Nat, I_ (0 : Int) H12 ∧ (∀ i : Int, ∀ H13 : Heap, I_ i H13 → F_law21_AllocateWrites_r4 R t x24 w I_ M_ i H13))))))))))))))))))))))))) ∧ (
  letH (H2.push (.cells #[.int .i64 (0 : Int), .slice none 0 0, .slice none 0 0, .slice none 0 0, .slice none 0 0, .slice none 0 0, .slice none 0 0, .slice none 0 0] t_api_Host (0, 0))) (fun H25 : Heap =>
  Keeps H2 H25 [((⟨H.size, 0, none⟩ : Addr), 8)] ∧ (
  CallsH Tryz.prog n_gen_Host #[.agg #[.int .i64 x, .slice x1.p x1.n x1.c, .slice x2.p x2.n x2.c, .slice x3.p x3.n x3.c, .slice x4.p x4.n x4.c, .slice x5.p x5.n x5.c, .slice x6.p x6.n x6.c, .slice x7.p x7.n x7.c]] H25 (fun v13 H26 =>
  ∃ x59 : Int, ∃ x60 : Sl, ∃ x61 : Sl, ∃ x62 : Sl, ∃ x63 : Sl, ∃ x64 : Sl, ∃ x65 : Sl, ∃ x66 : Sl, v13 = .agg #[.int .i64 x59, .slice x60.p x60.n x60.c, .slice x61.p x61.n x61.c, .slice x62.p x62.n x62.c, .slice x63.p x63.n x63.c, .slice x64.p x64.n x64.c, .slice x65.p x65.n x65.c, .slice x66.p x66.n x66.c] ∧ (
  okRow H26 (⟨H2.size, 0, none⟩ : Addr) 8 ∧ (
  letH (wrs H26 (⟨H2.size, 0, none⟩ : Addr) [.int .i64 x59, .slice x60.p x60.n x60.c, .slice x61.p x61.n x61.c, .slice x62.p x62.n x62.c, .slice x63.p x63.n x63.c, .slice x64.p x64.n x64.c, .slice x65.p x65.n x65.c, .slice x66.p x66.n x66.c]) (fun H27 : Heap =>
  ∃ x67 : Int, rd H27 (⟨H2.size, 0, none⟩ : Addr) = some (.int .i64 x67) ∧ ∃ x68 : Sl, rd H27 ((⟨H2.size, 0, none⟩ : Addr).add 1) = some (.slice x68.p x68.n x68.c) ∧ ∃ x69 : Sl, rd H27 ((⟨H2.size, 0, none⟩ : Addr).add 2) = some (.slice x69.p x69.n x69.c) ∧ ∃ x70 : Sl, rd H27 ((⟨H2.size, 0, none⟩ : Addr).add 3) = some (.slice x70.p x70.n x70.c) ∧ ∃ x71 : Sl, rd H27 ((⟨H2.size, 0, none⟩ : Addr).add 4) = some (.slice x71.p x71.n x71.c) ∧ ∃ x72 : Sl, rd H27 ((⟨H2.size, 0, none⟩ : Addr).add 5) = some (.slice x72.p x72.n x72.c) ∧ ∃ x73 : Sl, rd H27 ((⟨H2.size, 0, none⟩ : Addr).add 6) = some (.slice x73.p x73.n x73.c) ∧ ∃ x74 : Sl, rd H27 ((⟨H2.size, 0, none⟩ : Addr).add 7) = some (.slice x74.p x74.n x74.c) ∧ (
  CallsH Tryz.prog n_ref21_Assign #[.slice t.p t.n t.c, .agg #[.int .i64 x67, .slice x68.p x68.n x68.c, .slice x69.p x69.n x69.c, .slice x70.p x70.n x70.c, .slice x71.p x71.n x71.c, .slice x72.p x72.n x72.c, .slice x73.p x73.n x73.c, .slice x74.p x74.n x74.c]] H27 (fun v14 H28 =>
  ∃ x75 : Sl, ∃ x76 : Int, ∃ x77 : Int, ∃ x78 : Int, ∃ x79 : Int, ∃ x80 : Int, v14 = .tuple #[.slice x75.p x75.n x75.c, .agg #[.int .i64 x76, .int .i64 x77, .int .u64 x78, .int .u64 x79], .int .i64 x80] ∧ (
  letH (H28.push (.cells #[.int .i64 (0 : Int), .int .i64 (0 : Int), .int .u64 (0 : Int), .int .u64 (0 : Int)] t_api_Certificate (0, 0))) (fun H29 : Heap =>
  okRow H29 (⟨H28.size, 0, none⟩ : Addr) 4 ∧ (
  letH (wrs H29 (⟨H28.size, 0, none⟩ : Addr) [.int .i64 x76, .int .i64 x77, .int .u64 x78, .int .u64 x79]) (fun H30 : Heap =>
  CallsH Tryz.prog n_allocate_Writes #[.slice t.p t.n t.c, .slice x75.p x75.n x75.c] H30 (fun v15 H31 =>
  ∃ w1 : Sl, v15 = .slice w1.p w1.n w1.c ∧ (
  CallsH Tryz.prog n_law21_awake #[] H31 (fun v16 H32 =>
  ∃ x81 : Bool, v16 = .bool x81 ∧ (
  iteB (!x81) (
  R (.bool false) H32) (
  CallsH Tryz.prog n_ref21_Writes #[.slice t.p t.n t.c, .slice x75.p x75.n x75.c] H32 (fun v17 H33 =>
  ∃ x82 : Sl, v17 = .slice x82.p x82.n x82.c ∧ (
  CallsH Tryz.prog n_help_Equal_api_ConfigOp #[.slice w1.p w1.n w1.c, .slice x82.p x82.n x82.c] H33 (fun v18 H34 =>
  ∃ x83 : Bool, v18 = .bool x83 ∧ (
  iteB (!x83) (
  R (.bool false) H34) (
  iteB (x80 != (0 : Int)) (
  R (.bool true) H34) (
  ∃ I_4 : Int → Heap → Prop, ∃ M_4 : Int → Heap → Nat, I_4 (0 : Int) H34 ∧ (∀ i2 : Int, ∀ H35 : Heap, I_4 i2 H35 → F_law21_AllocateWrites_r8 R t x75 w1 I_4 M_4 i2 H35))))))))))))))))))))))))))))) ∧ (
  letH (H1.push (.cells #[.int .i64 (0 : Int), .slice none 0 0, .slice none 0 0, .slice none 0 0, .slice none 0 0, .slice none 0 0, .slice none 0 0, .slice none 0 0] t_api_Host (0, 0))) (fun H47 : Heap =>
  Keeps H1 H47 [((⟨H.size, 0, none⟩ : Addr), 8)] ∧ (
  CallsH Tryz.prog n_gen_Topology #[.slice l.p l.n l.c, .int .i64 (24 : Int)] H47 (fun v25 H48 =>
  ∃ t1 : Sl, v25 = .slice t1.p t1.n t1.c ∧ (
  Keeps H47 H48 [((⟨H.size, 0, none⟩ : Addr), 8)] ∧ (
  CallsH Tryz.prog n_gen_Host #[.agg #[.int .i64 x, .slice x1.p x1.n x1.c, .slice x2.p x2.n x2.c, .slice x3.p x3.n x3.c, .slice x4.p x4.n x4.c, .slice x5.p x5.n x5.c, .slice x6.p x6.n x6.c, .slice x7.p x7.n x7.c]] H48 (fun v26 H49 =>
  ∃ x110 : Int, ∃ x111 : Sl, ∃ x112 : Sl, ∃ x113 : Sl, ∃ x114 : Sl, ∃ x115 : Sl, ∃ x116 : Sl, ∃ x117 : Sl, v26 = .agg #[.int .i64 x110, .slice x111.p x111.n x111.c, .slice x112.p x112.n x112.c, .slice x113.p x113.n x113.c, .slice x114.p x114.n x114.c, .slice x115.p x115.n x115.c, .slice x116.p x116.n x116.c, .slice x117.p x117.n x117.c] ∧ (
  okRow H49 (⟨H1.size, 0, none⟩ : Addr) 8 ∧ (
  letH (wrs H49 (⟨H1.size, 0, none⟩ : Addr) [.int .i64 x110, .slice x111.p x111.n x111.c, .slice x112.p x112.n x112.c, .slice x113.p x113.n x113.c, .slice x114.p x114.n x114.c, .slice x115.p x115.n x115.c, .slice x116.p x116.n x116.c, .slice x117.p x117.n x117.c]) (fun H50 : Heap =>
  ∃ x118 : Int, rd H50 (⟨H1.size, 0, none⟩ : Addr) = some (.int .i64 x118) ∧ ∃ x119 : Sl, rd H50 ((⟨H1.size, 0, none⟩ : Addr).add 1) = some (.slice x119.p x119.n x119.c) ∧ ∃ x120 : Sl, rd H50 ((⟨H1.size, 0, none⟩ : Addr).add 2) = some (.slice x120.p x120.n x120.c) ∧ ∃ x121 : Sl, rd H50 ((⟨H1.size, 0, none⟩ : Addr).add 3) = some (.slice x121.p x121.n x121.c) ∧ ∃ x122 : Sl, rd H50 ((⟨H1.size, 0, none⟩ : Addr).add 4) = some (.slice x122.p x122.n x122.c) ∧ ∃ x123 : Sl, rd H50 ((⟨H1.size, 0, none⟩ : Addr).add 5) = some (.slice x123.p x123.n x123.c) ∧ ∃ x124 : Sl, rd H50 ((⟨H1.size, 0, none⟩ : Addr).add 6) = some (.slice x124.p x124.n x124.c) ∧ ∃ x125 : Sl, rd H50 ((⟨H1.size, 0, none⟩ : Addr).add 7) = some (.slice x125.p x125.n x125.c) ∧ (
  CallsH Tryz.prog n_ref21_Assign #[.slice t1.p t1.n t1.c, .agg #[.int .i64 x118, .slice x119.p x119.n x119.c, .slice x120.p x120.n x120.c, .slice x121.p x121.n x121.c, .slice x122.p x122.n x122.c, .slice x123.p x123.n x123.c, .slice x124.p x124.n x124.c, .slice x125.p x125.n x125.c]] H50 (fun v27 H51 =>
  ∃ x126 : Sl, ∃ x127 : Int, ∃ x128 : Int, ∃ x129 : Int, ∃ x130 : Int, ∃ x131 : Int, v27 = .tuple #[.slice x126.p x126.n x126.c, .agg #[.int .i64 x127, .int .i64 x128, .int .u64 x129, .int .u64 x130], .int .i64 x131] ∧ (
  letH (H51.push (.cells #[.int .i64 (0 : Int), .int .i64 (0 : Int), .int .u64 (0 : Int), .int .u64 (0 : Int)] t_api_Certificate (0, 0))) (fun H52 : Heap =>
  okRow H52 (⟨H51.size, 0, none⟩ : Addr) 4 ∧ (
  letH (wrs H52 (⟨H51.size, 0, none⟩ : Addr) [.int .i64 x127, .int .i64 x128, .int .u64 x129, .int .u64 x130]) (fun H53 : Heap =>
  CallsH Tryz.prog n_allocate_Writes #[.slice t1.p t1.n t1.c, .slice x126.p x126.n x126.c] H53 (fun v28 H54 =>
  ∃ w2 : Sl, v28 = .slice w2.p w2.n w2.c ∧ (
  CallsH Tryz.prog n_law21_awake #[] H54 (fun v29 H55 =>
  ∃ x132 : Bool, v29 = .bool x132 ∧ (
  iteB (!x132) (
  R (.bool false) H55) (
  CallsH Tryz.prog n_ref21_Writes #[.slice t1.p t1.n t1.c, .slice x126.p x126.n x126.c] H55 (fun v30 H56 =>
  ∃ x133 : Sl, v30 = .slice x133.p x133.n x133.c ∧ (
  CallsH Tryz.prog n_help_Equal_api_ConfigOp #[.slice w2.p w2.n w2.c, .slice x133.p x133.n x133.c] H56 (fun v31 H57 =>
  ∃ x134 : Bool, v31 = .bool x134 ∧ (
  iteB (!x134) (
  R (.bool false) H57) (
  iteB (x131 != (0 : Int)) (
  R (.bool true) H57) (
  ∃ I_8 : Int → Heap → Prop, ∃ M_8 : Int → Heap → Nat, I_8 (0 : Int) H57 ∧ (∀ i4 : Int, ∀ H58 : Heap, I_8 i4 H58 → F_law21_AllocateWrites_r12 R t1 x126 w2 I_8 M_8 i4 H58))))))))))))))))))))))))))))))

theorem F_law21_AllocateWrites_eq (R : Value → Heap → Prop) (l : Sl) (h_0 : Int) (h_1 : Sl) (h_2 : Sl) (h_3 : Sl) (h_4 : Sl) (h_5 : Sl) (h_6 : Sl) (h_7 : Sl) (H : Heap) : wpF Tryz.prog Tryz.f4 [(11, .int .i64 0), (14, .int .i64 0), (15, .slice none 0 0), (16, .slice none 0 0), (18, .int .i64 0), (19, .int .i64 0)] [] [(9, [11], [5, 7, 10]), (15, [14], [5, 7, 10, 11, 12]), (22, [15, 18], [5, 7, 10, 11, 16, 17]), (27, [16, 19], [5, 7, 10, 11, 15])] [20] [.slice l.p l.n l.c, .agg #[.int .i64 h_0, .slice h_1.p h_1.n h_1.c, .slice h_2.p h_2.n h_2.c, .slice h_3.p h_3.n h_3.c, .slice h_4.p h_4.n h_4.c, .slice h_5.p h_5.n h_5.c, .slice h_6.p h_6.n h_6.c, .slice h_7.p h_7.n h_7.c]] H R = F_law21_AllocateWrites R l h_0 h_1 h_2 h_3 h_4 h_5 h_6 h_7 H := by kernel_rfl

theorem F_law21_AllocateWrites_ok {R : Value → Heap → Prop} (l : Sl) (h_0 : Int) (h_1 : Sl) (h_2 : Sl) (h_3 : Sl) (h_4 : Sl) (h_5 : Sl) (h_6 : Sl) (h_7 : Sl) {H : Heap} (h : F_law21_AllocateWrites R l h_0 h_1 h_2 h_3 h_4 h_5 h_6 h_7 H) : CallsH Tryz.prog n_law21_AllocateWrites #[.slice l.p l.n l.c, .agg #[.int .i64 h_0, .slice h_1.p h_1.n h_1.c, .slice h_2.p h_2.n h_2.c, .slice h_3.p h_3.n h_3.c, .slice h_4.p h_4.n h_4.c, .slice h_5.p h_5.n h_5.c, .slice h_6.p h_6.n h_6.c, .slice h_7.p h_7.n h_7.c]] H R :=
  wpF_ok Tryz.func4 (F_law21_AllocateWrites_eq R l h_0 h_1 h_2 h_3 h_4 h_5 h_6 h_7 H) h

/-! ### 5: platformfw/platformfwgen.Topology -/

def F_gen_Topology_k1 (out : Sl) (bridges : Sl) (J_1 : Sl → Int → Heap → Prop) (H28 : Heap) : Prop :=
  letH (H28.push (.cells #[.int .i64 (out.n : Int)] t_int (0, 0))) (fun H29 : Heap =>
  runH Tryz.prog (Builtin.append_ #[t_sl_int, t_sl_int] t_sl_int #[.slice bridges.p bridges.n bridges.c, .slice (some (⟨H28.size, 0, none⟩ : Addr)) 1 1]) H29 (fun v13 H30 =>
  ∃ bridges1 : Sl, v13 = .slice bridges1.p bridges1.n bridges1.c ∧ (
  J_1 bridges1 (2 : Int) H30)))

def F_gen_Topology_k2 (out : Sl) (bridges : Sl) (H3 : Heap) (g : Addr) (J_1 : Sl → Int → Heap → Prop) (H25 : Heap) : Prop :=
  ∃ J_3 : Heap → Prop, (
  ∃ x46 : Bool, rd H25 (g.add 6) = some (.bool x46) ∧ (
  iteB x46 (
  ∃ x47 : Int, rd H25 ((⟨H3.size, 0, none⟩ : Addr).add 7) = some (.int .i64 x47) ∧ (
  CallsH Tryz.prog n_help_Mod #[.int .i64 x47, .int .i64 (4 : Int)] H25 (fun v12 H26 =>
  ∃ x48 : Int, v12 = .int .i64 x48 ∧ (
  okRow H26 (g.add 7) 1 ∧ (
  letH (wrs H26 (g.add 7) [.int .i64 x48]) (fun H27 : Heap =>
  J_3 H27)))))) (
  J_3 H25))) ∧ (∀ H28 : Heap, J_3 H28 → F_gen_Topology_k1 out bridges J_1 H28)

def F_gen_Topology_k3 (I_ : Sl → Sl → Int → Heap → Prop) (M_ : Sl → Sl → Int → Heap → Nat) (out : Sl) (bridges : Sl) (i : Int) (H3 : Heap) (g : Addr) (bridges2 : Sl) (most2 : Int) (H31 : Heap) : Prop :=
  ∃ x49 : Sl, rd H31 ((⟨H3.size, 0, none⟩ : Addr).add 10) = some (.slice x49.p x49.n x49.c) ∧ (
  CallsH Tryz.prog n_gen_bars #[.slice x49.p x49.n x49.c, .int .i64 most2] H31 (fun v14 H32 =>
  ∃ x50 : Sl, v14 = .slice x50.p x50.n x50.c ∧ (
  okRow H32 (g.add 10) 1 ∧ (
  letH (wrs H32 (g.add 10) [.slice x50.p x50.n x50.c]) (fun H33 : Heap =>
  ∃ x51 : Int, rd H33 g = some (.int .i64 x51) ∧ ∃ x52 : Int, rd H33 (g.add 1) = some (.int .i64 x52) ∧ ∃ x53 : Int, rd H33 (g.add 2) = some (.int .i64 x53) ∧ ∃ x54 : Int, rd H33 (g.add 3) = some (.int .i64 x54) ∧ ∃ x55 : Bool, rd H33 (g.add 4) = some (.bool x55) ∧ ∃ x56 : Bool, rd H33 (g.add 5) = some (.bool x56) ∧ ∃ x57 : Bool, rd H33 (g.add 6) = some (.bool x57) ∧ ∃ x58 : Int, rd H33 (g.add 7) = some (.int .i64 x58) ∧ ∃ x59 : Int, rd H33 (g.add 8) = some (.int .i64 x59) ∧ ∃ x60 : Int, rd H33 (g.add 9) = some (.int .i64 x60) ∧ ∃ x61 : Sl, rd H33 (g.add 10) = some (.slice x61.p x61.n x61.c) ∧ (
  letH (H33.push (.cells #[.int .i64 x51, .int .i64 x52, .int .i64 x53, .int .i64 x54, .bool x55, .bool x56, .bool x57, .int .i64 x58, .int .i64 x59, .int .i64 x60, .slice x61.p x61.n x61.c] t_api_Function (0, 0))) (fun H34 : Heap =>
  runH Tryz.prog (Builtin.append_ #[t_sl_api_Function, t_sl_api_Function] t_sl_api_Function #[.slice out.p out.n out.c, .slice (some (⟨H33.size, 0, none⟩ : Addr)) 1 1]) H34 (fun v15 H35 =>
  ∃ out1 : Sl, v15 = .slice out1.p out1.n out1.c ∧ (
  letV (IntKind.i64.wrap (i + (1 : Int))) (fun i2 : Int =>
  I_ out1 bridges2 i2 H35 ∧ M_ out1 bridges2 i2 H35 < M_ out bridges i H3))))))))))

def F_gen_Topology_k4 (H : Heap) (I_ : Sl → Sl → Int → Heap → Prop) (M_ : Sl → Sl → Int → Heap → Nat) (out : Sl) (bridges : Sl) (i : Int) (H3 : Heap) (g : Addr) (H18 : Heap) : Prop :=
  ∃ x35 : Int, rd H18 g = some (.int .i64 x35) ∧ (
  ∃ x36 : Int, rd H18 (g.add 1) = some (.int .i64 x36) ∧ (
  runH Tryz.prog (Instr.lookup t_map_2_int_bool (.map (some H.size)) (.agg #[.int .i64 x35, .int .i64 x36]) false) H18 (fun v9 H19 =>
  ∃ x37 : Bool, v9 = .bool x37 ∧ (
  iteB x37 (
  letV (IntKind.i64.wrap (i + (1 : Int))) (fun i1 : Int =>
  I_ out bridges i1 H19 ∧ M_ out bridges i1 H19 < M_ out bridges i H3)) (
  ∃ x38 : Int, rd H19 g = some (.int .i64 x38) ∧ (
  ∃ x39 : Int, rd H19 (g.add 1) = some (.int .i64 x39) ∧ (
  runH Tryz.prog (Instr.mapUpdate t_map_2_int_bool (.map (some H.size)) (.agg #[.int .i64 x38, .int .i64 x39]) (.bool true)) H19 (fun _ H20 =>
  ∃ J_1 : Sl → Int → Heap → Prop, (
  ∃ x40 : Bool, rd H20 (g.add 4) = some (.bool x40) ∧ (
  iteB x40 (
  ∃ J_2 : Heap → Prop, (
  ∃ x41 : Int, rd H20 ((⟨H3.size, 0, none⟩ : Addr).add 3) = some (.int .i64 x41) ∧ (
  CallsP Tryz.prog n_help_Mod #[.int .i64 x41, .int .i64 (3 : Int)] (fun v10 =>
  ∃ x42 : Int, v10 = .int .i64 x42 ∧ (
  ∃ x43 : Bool, rd H20 ((⟨H3.size, 0, none⟩ : Addr).add 6) = some (.bool x43) ∧ (
  iteB x43 (
  okRow H20 (g.add 5) 1 ∧ (
  letH (wrs H20 (g.add 5) [.bool (decide (x42 > (0 : Int)))]) (fun H21 : Heap =>
  okRow H21 (g.add 6) 1 ∧ (
  letH (wrs H21 (g.add 6) [.bool true]) (fun H22 : Heap =>
  J_2 H22))))) (
  ∃ x44 : Int, rd H20 ((⟨H3.size, 0, none⟩ : Addr).add 3) = some (.int .i64 x44) ∧ (
  CallsP Tryz.prog n_help_Mod #[.int .i64 x44, .int .i64 (4 : Int)] (fun v11 =>
  ∃ x45 : Int, v11 = .int .i64 x45 ∧ (
  okRow H20 (g.add 5) 1 ∧ (
  letH (wrs H20 (g.add 5) [.bool (decide (x42 > (0 : Int)))]) (fun H23 : Heap =>
  okRow H23 (g.add 6) 1 ∧ (
  letH (wrs H23 (g.add 6) [.bool (x45 == (0 : Int))]) (fun H24 : Heap =>
  J_2 H24))))))))))))) ∧ (∀ H25 : Heap, J_2 H25 → F_gen_Topology_k2 out bridges H3 g J_1 H25)) (
  J_1 bridges (6 : Int) H20))) ∧ (∀ bridges2 : Sl, ∀ most2 : Int, ∀ H31 : Heap, J_1 bridges2 most2 H31 → F_gen_Topology_k3 I_ M_ out bridges i H3 g bridges2 most2 H31)))))))))

def F_gen_Topology_r5 (R : Value → Heap → Prop) (H : Heap) (l : Sl) (most : Int) (I_ : Sl → Sl → Int → Heap → Prop) (M_ : Sl → Sl → Int → Heap → Nat) (out : Sl) (bridges : Sl) (i : Int) (H3 : Heap) : Prop :=
  iteB (decide (i < (l.n : Int))) (
  iteB (decide ((out.n : Int) < most)) (
  0 ≤ i ∧ i < (l.n : Int) ∧ (unSome l.p (fun a =>
  ∃ x : Int, rd H3 (a.add (i.toNat * 11)) = some (.int .i64 x) ∧ ∃ x1 : Int, rd H3 ((a.add (i.toNat * 11)).add 1) = some (.int .i64 x1) ∧ ∃ x2 : Int, rd H3 ((a.add (i.toNat * 11)).add 2) = some (.int .i64 x2) ∧ ∃ x3 : Int, rd H3 ((a.add (i.toNat * 11)).add 3) = some (.int .i64 x3) ∧ ∃ x4 : Bool, rd H3 ((a.add (i.toNat * 11)).add 4) = some (.bool x4) ∧ ∃ x5 : Bool, rd H3 ((a.add (i.toNat * 11)).add 5) = some (.bool x5) ∧ ∃ x6 : Bool, rd H3 ((a.add (i.toNat * 11)).add 6) = some (.bool x6) ∧ ∃ x7 : Int, rd H3 ((a.add (i.toNat * 11)).add 7) = some (.int .i64 x7) ∧ ∃ x8 : Int, rd H3 ((a.add (i.toNat * 11)).add 8) = some (.int .i64 x8) ∧ ∃ x9 : Int, rd H3 ((a.add (i.toNat * 11)).add 9) = some (.int .i64 x9) ∧ ∃ x10 : Sl, rd H3 ((a.add (i.toNat * 11)).add 10) = some (.slice x10.p x10.n x10.c) ∧ (
  letH (H3.push (.cells #[.int .i64 (0 : Int), .int .i64 (0 : Int), .int .i64 (0 : Int), .int .i64 (0 : Int), .bool false, .bool false, .bool false, .int .i64 (0 : Int), .int .i64 (0 : Int), .int .i64 (0 : Int), .slice none 0 0] t_api_Function (0, 0))) (fun H4 : Heap =>
  okRow H4 (⟨H3.size, 0, none⟩ : Addr) 11 ∧ (
  letH (wrs H4 (⟨H3.size, 0, none⟩ : Addr) [.int .i64 x, .int .i64 x1, .int .i64 x2, .int .i64 x3, .bool x4, .bool x5, .bool x6, .int .i64 x7, .int .i64 x8, .int .i64 x9, .slice x10.p x10.n x10.c]) (fun H5 : Heap =>
  ∃ J_ : Addr → Heap → Prop, (
  ∃ x11 : Int, rd H5 (⟨H3.size, 0, none⟩ : Addr) = some (.int .i64 x11) ∧ (
  CallsP Tryz.prog n_help_Mod #[.int .i64 x11, .int .i64 (bridges.n : Int)] (fun v =>
  ∃ x12 : Int, v = .int .i64 x12 ∧ (
  0 ≤ x12 ∧ x12 < (bridges.n : Int) ∧ (unSome bridges.p (fun a1 =>
  ∃ x13 : Int, rd H5 (a1.add (x12.toNat * 1)) = some (.int .i64 x13) ∧ (
  ∃ x14 : Int, rd H5 ((⟨H3.size, 0, none⟩ : Addr).add 1) = some (.int .i64 x14) ∧ (
  CallsP Tryz.prog n_help_Mod #[.int .i64 x14, .int .i64 (8 : Int)] (fun v1 =>
  ∃ x15 : Int, v1 = .int .i64 x15 ∧ (
  ∃ x16 : Int, rd H5 ((⟨H3.size, 0, none⟩ : Addr).add 2) = some (.int .i64 x16) ∧ (
  CallsP Tryz.prog n_help_Mod #[.int .i64 x16, .int .i64 (9 : Int)] (fun v2 =>
  ∃ x17 : Int, v2 = .int .i64 x17 ∧ (
  ∃ x18 : Int, rd H5 ((⟨H3.size, 0, none⟩ : Addr).add 3) = some (.int .i64 x18) ∧ (
  CallsP Tryz.prog n_help_Mod #[.int .i64 x18, .int .i64 (9 : Int)] (fun v3 =>
  ∃ x19 : Int, v3 = .int .i64 x19 ∧ (
  ∃ x20 : Bool, rd H5 ((⟨H3.size, 0, none⟩ : Addr).add 4) = some (.bool x20) ∧ (
  iteB x20 (
  ∃ x21 : Int, rd H5 ((⟨H3.size, 0, none⟩ : Addr).add 8) = some (.int .i64 x21) ∧ (
  CallsP Tryz.prog n_help_Mod #[.int .i64 x21, .int .i64 (5 : Int)] (fun v4 =>
  ∃ x22 : Int, v4 = .int .i64 x22 ∧ (
  ∃ x23 : Int, rd H5 ((⟨H3.size, 0, none⟩ : Addr).add 9) = some (.int .i64 x23) ∧ (
  CallsP Tryz.prog n_help_Mod #[.int .i64 x23, .int .i64 (6 : Int)] (fun v5 =>
  ∃ x24 : Int, v5 = .int .i64 x24 ∧ (
  (
  letH (H5.push (.cells #[.int .i64 (0 : Int), .int .i64 (1 : Int), .int .i64 (2 : Int), .int .i64 (4 : Int), .int .i64 (16 : Int), .int .i64 (32 : Int)] t_int (0, 0))) (fun H6 : Heap =>
  Keeps H5 H6 [((⟨H3.size, 0, none⟩ : Addr), 1), ((a1.add (x12.toNat * 1)), 1), (((⟨H3.size, 0, none⟩ : Addr).add 1), 1), (((⟨H3.size, 0, none⟩ : Addr).add 2), 1), (((⟨H3.size, 0, none⟩ : Addr).add 3), 1), (((⟨H3.size, 0, none⟩ : Addr).add 4), 1), (((⟨H3.size, 0, none⟩ : Addr).add 8), 1), (((⟨H3.size, 0, none⟩ : Addr).add 9), 1)] ∧ (
  0 ≤ x24 ∧ x24 < (6 : Int) ∧ (∃ x25 : Int, rd H6 ((⟨H5.size, 0, none⟩ : Addr).add (x24.toNat * 1)) = some (.int .i64 x25) ∧ (
  letH (H6.push (.cells #[.int .i64 (0 : Int), .int .i64 (0 : Int), .int .i64 (0 : Int), .int .i64 (0 : Int), .bool false, .bool false, .bool false, .int .i64 (0 : Int), .int .i64 (0 : Int), .int .i64 (0 : Int), .slice none 0 0] t_api_Function (0, 0))) (fun H7 : Heap =>
  Keeps H6 H7 [((⟨H3.size, 0, none⟩ : Addr), 1), ((a1.add (x12.toNat * 1)), 1), (((⟨H3.size, 0, none⟩ : Addr).add 1), 1), (((⟨H3.size, 0, none⟩ : Addr).add 2), 1), (((⟨H3.size, 0, none⟩ : Addr).add 3), 1), (((⟨H3.size, 0, none⟩ : Addr).add 4), 1), (((⟨H3.size, 0, none⟩ : Addr).add 8), 1), (((⟨H3.size, 0, none⟩ : Addr).add 9), 1), (((⟨H5.size, 0, none⟩ : Addr).add (x24.toNat * 1)), 1)] ∧ (
  okRow H7 (⟨H6.size, 0, none⟩ : Addr) 11 ∧ (
  letH (wrs H7 (⟨H6.size, 0, none⟩ : Addr) [.int .i64 x13, .int .i64 x15, .int .i64 (IntKind.i64.wrap ((1 : Int) + x17)), .int .i64 x19, .bool true, .bool false, .bool false, .int .i64 (0 : Int), .int .i64 x22, .int .i64 x25, .slice none 0 0]) (fun H8 : Heap =>
  J_ (⟨H6.size, 0, none⟩ : Addr) H8))))))))) ∧ (
  letH (H5.push (.cells #[.int .i64 (0 : Int), .int .i64 (0 : Int), .int .i64 (0 : Int), .int .i64 (0 : Int), .bool false, .bool false, .bool false, .int .i64 (0 : Int), .int .i64 (0 : Int), .int .i64 (0 : Int), .slice none 0 0] t_api_Function (0, 0))) (fun H9 : Heap =>
  Keeps H5 H9 [((⟨H3.size, 0, none⟩ : Addr), 1), ((a1.add (x12.toNat * 1)), 1), (((⟨H3.size, 0, none⟩ : Addr).add 1), 1), (((⟨H3.size, 0, none⟩ : Addr).add 2), 1), (((⟨H3.size, 0, none⟩ : Addr).add 3), 1), (((⟨H3.size, 0, none⟩ : Addr).add 4), 1), (((⟨H3.size, 0, none⟩ : Addr).add 8), 1), (((⟨H3.size, 0, none⟩ : Addr).add 9), 1)] ∧ (
  letH (H9.push (.cells #[.int .i64 (0 : Int), .int .i64 (1 : Int), .int .i64 (2 : Int), .int .i64 (4 : Int), .int .i64 (16 : Int), .int .i64 (32 : Int)] t_int (0, 0))) (fun H10 : Heap =>
  Keeps H9 H10 [((⟨H3.size, 0, none⟩ : Addr), 1), ((a1.add (x12.toNat * 1)), 1), (((⟨H3.size, 0, none⟩ : Addr).add 1), 1), (((⟨H3.size, 0, none⟩ : Addr).add 2), 1), (((⟨H3.size, 0, none⟩ : Addr).add 3), 1), (((⟨H3.size, 0, none⟩ : Addr).add 4), 1), (((⟨H3.size, 0, none⟩ : Addr).add 8), 1), (((⟨H3.size, 0, none⟩ : Addr).add 9), 1)] ∧ (
  0 ≤ x24 ∧ x24 < (6 : Int) ∧ (∃ x26 : Int, rd H10 ((⟨H9.size, 0, none⟩ : Addr).add (x24.toNat * 1)) = some (.int .i64 x26) ∧ (
  okRow H10 (⟨H5.size, 0, none⟩ : Addr) 11 ∧ (
  letH (wrs H10 (⟨H5.size, 0, none⟩ : Addr) [.int .i64 x13, .int .i64 x15, .int .i64 (IntKind.i64.wrap ((1 : Int) + x17)), .int .i64 x19, .bool true, .bool false, .bool false, .int .i64 (0 : Int), .int .i64 x22, .int .i64 x26, .slice none 0 0]) (fun H11 : Heap =>
  J_ (⟨H5.size, 0, none⟩ : Addr) H11)))))))))))))))) (
  ∃ x27 : Int, rd H5 ((⟨H3.size, 0, none⟩ : Addr).add 2) = some (.int .i64 x27) ∧ (
  CallsP Tryz.prog n_help_Mod #[.int .i64 x27, .int .i64 (3 : Int)] (fun v6 =>
  ∃ x28 : Int, v6 = .int .i64 x28 ∧ (
  ∃ x29 : Int, rd H5 ((⟨H3.size, 0, none⟩ : Addr).add 8) = some (.int .i64 x29) ∧ (
  CallsP Tryz.prog n_help_Mod #[.int .i64 x29, .int .i64 (5 : Int)] (fun v7 =>
  ∃ x30 : Int, v7 = .int .i64 x30 ∧ (
  ∃ x31 : Int, rd H5 ((⟨H3.size, 0, none⟩ : Addr).add 9) = some (.int .i64 x31) ∧ (
  CallsP Tryz.prog n_help_Mod #[.int .i64 x31, .int .i64 (6 : Int)] (fun v8 =>
  ∃ x32 : Int, v8 = .int .i64 x32 ∧ (
  (
  letH (H5.push (.cells #[.int .i64 (0 : Int), .int .i64 (1 : Int), .int .i64 (2 : Int), .int .i64 (4 : Int), .int .i64 (16 : Int), .int .i64 (32 : Int)] t_int (0, 0))) (fun H12 : Heap =>
  Keeps H5 H12 [((⟨H3.size, 0, none⟩ : Addr), 1), ((a1.add (x12.toNat * 1)), 1), (((⟨H3.size, 0, none⟩ : Addr).add 1), 1), (((⟨H3.size, 0, none⟩ : Addr).add 2), 1), (((⟨H3.size, 0, none⟩ : Addr).add 3), 1), (((⟨H3.size, 0, none⟩ : Addr).add 4), 1), (((⟨H3.size, 0, none⟩ : Addr).add 2), 1), (((⟨H3.size, 0, none⟩ : Addr).add 8), 1), (((⟨H3.size, 0, none⟩ : Addr).add 9), 1)] ∧ (
  0 ≤ x32 ∧ x32 < (6 : Int) ∧ (∃ x33 : Int, rd H12 ((⟨H5.size, 0, none⟩ : Addr).add (x32.toNat * 1)) = some (.int .i64 x33) ∧ (
  letH (H12.push (.cells #[.int .i64 (0 : Int), .int .i64 (0 : Int), .int .i64 (0 : Int), .int .i64 (0 : Int), .bool false, .bool false, .bool false, .int .i64 (0 : Int), .int .i64 (0 : Int), .int .i64 (0 : Int), .slice none 0 0] t_api_Function (0, 0))) (fun H13 : Heap =>
  Keeps H12 H13 [((⟨H3.size, 0, none⟩ : Addr), 1), ((a1.add (x12.toNat * 1)), 1), (((⟨H3.size, 0, none⟩ : Addr).add 1), 1), (((⟨H3.size, 0, none⟩ : Addr).add 2), 1), (((⟨H3.size, 0, none⟩ : Addr).add 3), 1), (((⟨H3.size, 0, none⟩ : Addr).add 4), 1), (((⟨H3.size, 0, none⟩ : Addr).add 2), 1), (((⟨H3.size, 0, none⟩ : Addr).add 8), 1), (((⟨H3.size, 0, none⟩ : Addr).add 9), 1), (((⟨H5.size, 0, none⟩ : Addr).add (x32.toNat * 1)), 1)] ∧ (
  okRow H13 (⟨H12.size, 0, none⟩ : Addr) 11 ∧ (
  letH (wrs H13 (⟨H12.size, 0, none⟩ : Addr) [.int .i64 x13, .int .i64 x15, .int .i64 (IntKind.i64.wrap ((1 : Int) + x17)), .int .i64 x19, .bool (x28 == (0 : Int)), .bool false, .bool false, .int .i64 (0 : Int), .int .i64 x30, .int .i64 x33, .slice none 0 0]) (fun H14 : Heap =>
  J_ (⟨H12.size, 0, none⟩ : Addr) H14))))))))) ∧ (
  letH (H5.push (.cells #[.int .i64 (0 : Int), .int .i64 (0 : Int), .int .i64 (0 : Int), .int .i64 (0 : Int), .bool false, .bool false, .bool false, .int .i64 (0 : Int), .int .i64 (0 : Int), .int .i64 (0 : Int), .slice none 0 0] t_api_Function (0, 0))) (fun H15 : Heap =>
  Keeps H5 H15 [((⟨H3.size, 0, none⟩ : Addr), 1), ((a1.add (x12.toNat * 1)), 1), (((⟨H3.size, 0, none⟩ : Addr).add 1), 1), (((⟨H3.size, 0, none⟩ : Addr).add 2), 1), (((⟨H3.size, 0, none⟩ : Addr).add 3), 1), (((⟨H3.size, 0, none⟩ : Addr).add 4), 1), (((⟨H3.size, 0, none⟩ : Addr).add 2), 1), (((⟨H3.size, 0, none⟩ : Addr).add 8), 1), (((⟨H3.size, 0, none⟩ : Addr).add 9), 1)] ∧ (
  letH (H15.push (.cells #[.int .i64 (0 : Int), .int .i64 (1 : Int), .int .i64 (2 : Int), .int .i64 (4 : Int), .int .i64 (16 : Int), .int .i64 (32 : Int)] t_int (0, 0))) (fun H16 : Heap =>
  Keeps H15 H16 [((⟨H3.size, 0, none⟩ : Addr), 1), ((a1.add (x12.toNat * 1)), 1), (((⟨H3.size, 0, none⟩ : Addr).add 1), 1), (((⟨H3.size, 0, none⟩ : Addr).add 2), 1), (((⟨H3.size, 0, none⟩ : Addr).add 3), 1), (((⟨H3.size, 0, none⟩ : Addr).add 4), 1), (((⟨H3.size, 0, none⟩ : Addr).add 2), 1), (((⟨H3.size, 0, none⟩ : Addr).add 8), 1), (((⟨H3.size, 0, none⟩ : Addr).add 9), 1)] ∧ (
  0 ≤ x32 ∧ x32 < (6 : Int) ∧ (∃ x34 : Int, rd H16 ((⟨H15.size, 0, none⟩ : Addr).add (x32.toNat * 1)) = some (.int .i64 x34) ∧ (
  okRow H16 (⟨H5.size, 0, none⟩ : Addr) 11 ∧ (
  letH (wrs H16 (⟨H5.size, 0, none⟩ : Addr) [.int .i64 x13, .int .i64 x15, .int .i64 (IntKind.i64.wrap ((1 : Int) + x17)), .int .i64 x19, .bool (x28 == (0 : Int)), .bool false, .bool false, .int .i64 (0 : Int), .int .i64 x30, .int .i64 x34, .slice none 0 0]) (fun H17 : Heap =>
  J_ (⟨H5.size, 0, none⟩ : Addr) H17)))))))))))))))))))))))))))))))))))) ∧ (∀ g : Addr, ∀ H18 : Heap, J_ g H18 → F_gen_Topology_k4 H I_ M_ out bridges i H3 g H18)))))))) (
  R (.slice out.p out.n out.c) H3)) (
  R (.slice out.p out.n out.c) H3)

def F_gen_Topology (R : Value → Heap → Prop) (l : Sl) (most : Int) (H : Heap) : Prop :=
  letH (H.push (.map #[] 0)) (fun H1 : Heap =>
  letH (H1.push (.cells #[.int .i64 (-1 : Int)] t_int (0, 0))) (fun H2 : Heap =>
  ∃ I_ : Sl → Sl → Int → Heap → Prop, ∃ M_ : Sl → Sl → Int → Heap → Nat, I_ (Sl.mk none 0 0) (Sl.mk (some (⟨H1.size, 0, none⟩ : Addr)) 1 1) (0 : Int) H2 ∧ (∀ out : Sl, ∀ bridges : Sl, ∀ i : Int, ∀ H3 : Heap, I_ out bridges i H3 → F_gen_Topology_r5 R H l most I_ M_ out bridges i H3)))

theorem F_gen_Topology_eq (R : Value → Heap → Prop) (l : Sl) (most : Int) (H : Heap) : wpF Tryz.prog Tryz.f5 [(5, .slice none 0 0), (7, .slice none 0 0), (8, .int .i64 0), (10, .pointer (some ⟨0, 0, none⟩)), (11, .int .i64 0)] [(9, [10], [0, 1, 5, 6, 7, 8, 9]), (18, [7, 11], [0, 1, 5, 6, 8, 9, 10]), (15, [], [0, 1, 5, 6, 7, 8, 9, 10, 11]), (17, [], [0, 1, 5, 6, 7, 8, 9, 10, 11])] [(5, [5, 7, 8], [0, 1, 6])] [20] [.slice l.p l.n l.c, .int .i64 most] H R = F_gen_Topology R l most H := by kernel_rfl

theorem F_gen_Topology_ok {R : Value → Heap → Prop} (l : Sl) (most : Int) {H : Heap} (h : F_gen_Topology R l most H) : CallsH Tryz.prog n_gen_Topology #[.slice l.p l.n l.c, .int .i64 most] H R :=
  wpF_ok Tryz.func5 (F_gen_Topology_eq R l most H) h

/-! ### 6: platformfw/allocate.Assign -/

/-! ### 7: platformfw/platformfwref21.Assign -/

def F_ref21_Assign_r1 (l : Sl) (H7 : Heap) (x12 : Sl) (I_2 : Int → Heap → Prop) (M_2 : Int → Heap → Nat) (i2 : Int) (H18 : Heap) (I_3 : Int → Heap → Prop) (M_3 : Int → Heap → Nat) (classv2 : Int) (H19 : Heap) : Prop :=
  iteB (decide (classv2 < (3 : Int))) (
  CallsH Tryz.prog n_ref21_at #[.slice (some (⟨H7.size, 0, none⟩ : Addr)) ((x12.n : Int).toNat) ((x12.n : Int).toNat), .int .i64 i2, .int .i64 (IntKind.i64.wrap ((-1 : Int) - classv2))] H19 (fun v5 H20 =>
  ∃ w : Int, v5 = .int .i64 w ∧ (
  iteB (decide (w ≥ (0 : Int))) (
  0 ≤ w ∧ w < (((x12.n : Int).toNat : Nat) : Int) ∧ (∃ x36 : Int, rd H20 (((⟨H7.size, 0, none⟩ : Addr).add (w.toNat * 5)).add 4) = some (.int .u64 x36) ∧ (
  0 ≤ w ∧ w < (((x12.n : Int).toNat : Nat) : Int) ∧ (∃ x37 : Int, rd H20 (((⟨H7.size, 0, none⟩ : Addr).add (w.toNat * 5)).add 3) = some (.int .i64 x37) ∧ (
  0 ≤ (IntKind.u64.wrap x37) ∧ (
  letH (H20.push (.cells #[.int .u64 x36, .int .u64 (IntKind.u64.wrap ((1 : Int) * 2 ^ (min (IntKind.u64.wrap x37).toNat IntKind.u64.bits)))] t_api_Range (0, 0))) (fun H21 : Heap =>
  CallsH Tryz.prog n_ref21_place #[.slice l.p l.n l.c, .slice (some (⟨H7.size, 0, none⟩ : Addr)) ((x12.n : Int).toNat) ((x12.n : Int).toNat), .slice x12.p x12.n x12.c, .int .i64 i2, .int .i64 classv2, .slice (some (⟨H20.size, 0, none⟩ : Addr)) 1 1] H21 (fun v6 H22 =>
  ∃ x38 : Int, ∃ x39 : Int, ∃ x40 : Int, ∃ x41 : Int, ∃ x42 : Int, v6 = .tuple #[.agg #[.int .i64 x38, .int .i64 x39, .int .u64 x40, .int .u64 x41], .int .i64 x42] ∧ (
  letV (IntKind.i64.wrap (classv2 + (1 : Int))) (fun classv3 : Int =>
  I_3 classv3 H22 ∧ M_3 classv3 H22 < M_3 classv2 H19)))))))))) (
  letV (IntKind.i64.wrap (classv2 + (1 : Int))) (fun classv4 : Int =>
  I_3 classv4 H20 ∧ M_3 classv4 H20 < M_3 classv2 H19))))) (
  letV (IntKind.i64.wrap (i2 + (1 : Int))) (fun i3 : Int =>
  I_2 i3 H19 ∧ M_2 i3 H19 < M_2 i2 H18))

def F_ref21_Assign_r2 (R : Value → Heap → Prop) (l : Sl) (H1 : Heap) (H7 : Heap) (x12 : Sl) (I_2 : Int → Heap → Prop) (M_2 : Int → Heap → Nat) (i2 : Int) (H18 : Heap) : Prop :=
  iteB (decide (i2 < (l.n : Int))) (
  ∃ I_3 : Int → Heap → Prop, ∃ M_3 : Int → Heap → Nat, I_3 (0 : Int) H18 ∧ (∀ classv2 : Int, ∀ H19 : Heap, I_3 classv2 H19 → F_ref21_Assign_r1 l H7 x12 I_2 M_2 i2 H18 I_3 M_3 classv2 H19)) (
  okRow H18 (⟨H1.size, 0, none⟩ : Addr) 4 ∧ (
  letH (wrs H18 (⟨H1.size, 0, none⟩ : Addr) [.int .i64 (0 : Int), .int .i64 (0 : Int), .int .u64 (0 : Int), .int .u64 (0 : Int)]) (fun H23 : Heap =>
  ∃ r12 : Int, rd H23 (⟨H1.size, 0, none⟩ : Addr) = some (.int .i64 r12) ∧ ∃ r13 : Int, rd H23 ((⟨H1.size, 0, none⟩ : Addr).add 1) = some (.int .i64 r13) ∧ ∃ r14 : Int, rd H23 ((⟨H1.size, 0, none⟩ : Addr).add 2) = some (.int .u64 r14) ∧ ∃ r15 : Int, rd H23 ((⟨H1.size, 0, none⟩ : Addr).add 3) = some (.int .u64 r15) ∧ (
  R (.tuple #[.slice (some (⟨H7.size, 0, none⟩ : Addr)) ((x12.n : Int).toNat) ((x12.n : Int).toNat), .agg #[.int .i64 r12, .int .i64 r13, .int .u64 r14, .int .u64 r15], .int .i64 (0 : Int)]) H23))))

def F_ref21_Assign_r3 (R : Value → Heap → Prop) (H : Heap) (l : Sl) (H1 : Heap) (H7 : Heap) (x12 : Sl) (I_1 : Int → Heap → Prop) (M_1 : Int → Heap → Nat) (classv : Int) (H12 : Heap) : Prop :=
  iteB (decide (classv < (3 : Int))) (
  ∃ x18 : Int, rd H12 (⟨H.size, 0, none⟩ : Addr) = some (.int .i64 x18) ∧ ∃ x19 : Sl, rd H12 ((⟨H.size, 0, none⟩ : Addr).add 1) = some (.slice x19.p x19.n x19.c) ∧ ∃ x20 : Sl, rd H12 ((⟨H.size, 0, none⟩ : Addr).add 2) = some (.slice x20.p x20.n x20.c) ∧ ∃ x21 : Sl, rd H12 ((⟨H.size, 0, none⟩ : Addr).add 3) = some (.slice x21.p x21.n x21.c) ∧ ∃ x22 : Sl, rd H12 ((⟨H.size, 0, none⟩ : Addr).add 4) = some (.slice x22.p x22.n x22.c) ∧ ∃ x23 : Sl, rd H12 ((⟨H.size, 0, none⟩ : Addr).add 5) = some (.slice x23.p x23.n x23.c) ∧ ∃ x24 : Sl, rd H12 ((⟨H.size, 0, none⟩ : Addr).add 6) = some (.slice x24.p x24.n x24.c) ∧ ∃ x25 : Sl, rd H12 ((⟨H.size, 0, none⟩ : Addr).add 7) = some (.slice x25.p x25.n x25.c) ∧ (
  CallsH Tryz.prog n_ref21_Space #[.agg #[.int .i64 x18, .slice x19.p x19.n x19.c, .slice x20.p x20.n x20.c, .slice x21.p x21.n x21.c, .slice x22.p x22.n x22.c, .slice x23.p x23.n x23.c, .slice x24.p x24.n x24.c, .slice x25.p x25.n x25.c], .int .i64 classv] H12 (fun v3 H13 =>
  ∃ x26 : Sl, v3 = .slice x26.p x26.n x26.c ∧ (
  CallsH Tryz.prog n_ref21_place #[.slice l.p l.n l.c, .slice (some (⟨H7.size, 0, none⟩ : Addr)) ((x12.n : Int).toNat) ((x12.n : Int).toNat), .slice x12.p x12.n x12.c, .int .i64 (-1 : Int), .int .i64 classv, .slice x26.p x26.n x26.c] H13 (fun v4 H14 =>
  ∃ x27 : Int, ∃ x28 : Int, ∃ x29 : Int, ∃ x30 : Int, ∃ x31 : Int, v4 = .tuple #[.agg #[.int .i64 x27, .int .i64 x28, .int .u64 x29, .int .u64 x30], .int .i64 x31] ∧ (
  letH (H14.push (.cells #[.int .i64 (0 : Int), .int .i64 (0 : Int), .int .u64 (0 : Int), .int .u64 (0 : Int)] t_api_Certificate (0, 0))) (fun H15 : Heap =>
  okRow H15 (⟨H14.size, 0, none⟩ : Addr) 4 ∧ (
  letH (wrs H15 (⟨H14.size, 0, none⟩ : Addr) [.int .i64 x27, .int .i64 x28, .int .u64 x29, .int .u64 x30]) (fun H16 : Heap =>
  iteB (x31 != (0 : Int)) (
  ∃ x32 : Int, rd H16 (⟨H14.size, 0, none⟩ : Addr) = some (.int .i64 x32) ∧ ∃ x33 : Int, rd H16 ((⟨H14.size, 0, none⟩ : Addr).add 1) = some (.int .i64 x33) ∧ ∃ x34 : Int, rd H16 ((⟨H14.size, 0, none⟩ : Addr).add 2) = some (.int .u64 x34) ∧ ∃ x35 : Int, rd H16 ((⟨H14.size, 0, none⟩ : Addr).add 3) = some (.int .u64 x35) ∧ (
  okRow H16 (⟨H1.size, 0, none⟩ : Addr) 4 ∧ (
  letH (wrs H16 (⟨H1.size, 0, none⟩ : Addr) [.int .i64 x32, .int .i64 x33, .int .u64 x34, .int .u64 x35]) (fun H17 : Heap =>
  ∃ r8 : Int, rd H17 (⟨H1.size, 0, none⟩ : Addr) = some (.int .i64 r8) ∧ ∃ r9 : Int, rd H17 ((⟨H1.size, 0, none⟩ : Addr).add 1) = some (.int .i64 r9) ∧ ∃ r10 : Int, rd H17 ((⟨H1.size, 0, none⟩ : Addr).add 2) = some (.int .u64 r10) ∧ ∃ r11 : Int, rd H17 ((⟨H1.size, 0, none⟩ : Addr).add 3) = some (.int .u64 r11) ∧ (
  R (.tuple #[.slice none 0 0, .agg #[.int .i64 r8, .int .i64 r9, .int .u64 r10, .int .u64 r11], .int .i64 x31]) H17))))) (
  letV (IntKind.i64.wrap (classv + (1 : Int))) (fun classv1 : Int =>
  I_1 classv1 H16 ∧ M_1 classv1 H16 < M_1 classv H12))))))))))) (
  ∃ I_2 : Int → Heap → Prop, ∃ M_2 : Int → Heap → Nat, I_2 (0 : Int) H12 ∧ (∀ i2 : Int, ∀ H18 : Heap, I_2 i2 H18 → F_ref21_Assign_r2 R l H1 H7 x12 I_2 M_2 i2 H18))

def F_ref21_Assign_r4 (R : Value → Heap → Prop) (H : Heap) (l : Sl) (H1 : Heap) (H7 : Heap) (x12 : Sl) (I_ : Int → Heap → Prop) (M_ : Int → Heap → Nat) (i : Int) (H10 : Heap) : Prop :=
  iteB (decide (i < (x12.n : Int))) (
  0 ≤ i ∧ i < (x12.n : Int) ∧ (unSome x12.p (fun a =>
  ∃ x14 : Int, rd H10 (a.add (i.toNat * 4)) = some (.int .i64 x14) ∧ ∃ x15 : Int, rd H10 ((a.add (i.toNat * 4)).add 1) = some (.int .i64 x15) ∧ ∃ x16 : Int, rd H10 ((a.add (i.toNat * 4)).add 2) = some (.int .i64 x16) ∧ ∃ x17 : Int, rd H10 ((a.add (i.toNat * 4)).add 3) = some (.int .i64 x17) ∧ (
  0 ≤ i ∧ i < (((x12.n : Int).toNat : Nat) : Int) ∧ (okRow H10 ((⟨H7.size, 0, none⟩ : Addr).add (i.toNat * 5)) 4 ∧ (
  letH (wrs H10 ((⟨H7.size, 0, none⟩ : Addr).add (i.toNat * 5)) [.int .i64 x14, .int .i64 x15, .int .i64 x16, .int .i64 x17]) (fun H11 : Heap =>
  letV (IntKind.i64.wrap (i + (1 : Int))) (fun i1 : Int =>
  I_ i1 H11 ∧ M_ i1 H11 < M_ i H10)))))))) (
  ∃ I_1 : Int → Heap → Prop, ∃ M_1 : Int → Heap → Nat, I_1 (0 : Int) H10 ∧ (∀ classv : Int, ∀ H12 : Heap, I_1 classv H12 → F_ref21_Assign_r3 R H l H1 H7 x12 I_1 M_1 classv H12))

def F_ref21_Assign_k5 (R : Value → Heap → Prop) (H : Heap) (l : Sl) (H1 : Heap) (x10 : Bool) (H5 : Heap) : Prop :=
  iteB x10 (
  okRow H5 (⟨H1.size, 0, none⟩ : Addr) 4 ∧ (
  letH (wrs H5 (⟨H1.size, 0, none⟩ : Addr) [.int .i64 (0 : Int), .int .i64 (0 : Int), .int .u64 (0 : Int), .int .u64 (0 : Int)]) (fun H6 : Heap =>
  ∃ r : Int, rd H6 (⟨H1.size, 0, none⟩ : Addr) = some (.int .i64 r) ∧ ∃ r1 : Int, rd H6 ((⟨H1.size, 0, none⟩ : Addr).add 1) = some (.int .i64 r1) ∧ ∃ r2 : Int, rd H6 ((⟨H1.size, 0, none⟩ : Addr).add 2) = some (.int .u64 r2) ∧ ∃ r3 : Int, rd H6 ((⟨H1.size, 0, none⟩ : Addr).add 3) = some (.int .u64 r3) ∧ (
  R (.tuple #[.slice none 0 0, .agg #[.int .i64 r, .int .i64 r1, .int .u64 r2, .int .u64 r3], .int .i64 (1 : Int)]) H6)))) (
  ∃ x11 : Sl, rd H5 ((⟨H.size, 0, none⟩ : Addr).add 3) = some (.slice x11.p x11.n x11.c) ∧ (
  CallsH Tryz.prog n_ref18_Needs #[.slice l.p l.n l.c, .bool (decide ((x11.n : Int) > (0 : Int)))] H5 (fun v2 H7 =>
  ∃ x12 : Sl, ∃ x13 : Int, v2 = .tuple #[.slice x12.p x12.n x12.c, .int .i64 x13] ∧ (
  iteB (x13 != (0 : Int)) (
  okRow H7 (⟨H1.size, 0, none⟩ : Addr) 4 ∧ (
  letH (wrs H7 (⟨H1.size, 0, none⟩ : Addr) [.int .i64 (0 : Int), .int .i64 (0 : Int), .int .u64 (0 : Int), .int .u64 (0 : Int)]) (fun H8 : Heap =>
  ∃ r4 : Int, rd H8 (⟨H1.size, 0, none⟩ : Addr) = some (.int .i64 r4) ∧ ∃ r5 : Int, rd H8 ((⟨H1.size, 0, none⟩ : Addr).add 1) = some (.int .i64 r5) ∧ ∃ r6 : Int, rd H8 ((⟨H1.size, 0, none⟩ : Addr).add 2) = some (.int .u64 r6) ∧ ∃ r7 : Int, rd H8 ((⟨H1.size, 0, none⟩ : Addr).add 3) = some (.int .u64 r7) ∧ (
  R (.tuple #[.slice none 0 0, .agg #[.int .i64 r4, .int .i64 r5, .int .u64 r6, .int .u64 r7], .int .i64 x13]) H8)))) (
  0 ≤ (x12.n : Int) ∧ (x12.n : Int) ≤ (x12.n : Int) ∧ (x12.n : Int) * ((40 : Nat) : Int) ≤ 281474976710656 ∧ (
  letH (H7.push (.cells (zeroRow (.agg #[.int .i64 (0 : Int), .int .i64 (0 : Int), .int .i64 (0 : Int), .int .i64 (0 : Int), .int .u64 (0 : Int)]) (x12.n : Int).toNat) t_api_Assignment (0, 0))) (fun H9 : Heap =>
  ∃ I_ : Int → Heap → Prop, ∃ M_ : Int → Heap → Nat, I_ (0 : Int) H9 ∧ (∀ i : Int, ∀ H10 : Heap, I_ i H10 → F_ref21_Assign_r4 R H l H1 H7 x12 I_ M_ i H10))))))))

def F_ref21_Assign (R : Value → Heap → Prop) (l : Sl) (h_0 : Int) (h_1 : Sl) (h_2 : Sl) (h_3 : Sl) (h_4 : Sl) (h_5 : Sl) (h_6 : Sl) (h_7 : Sl) (H : Heap) : Prop :=
  letH (H.push (.cells #[.int .i64 h_0, .slice h_1.p h_1.n h_1.c, .slice h_2.p h_2.n h_2.c, .slice h_3.p h_3.n h_3.c, .slice h_4.p h_4.n h_4.c, .slice h_5.p h_5.n h_5.c, .slice h_6.p h_6.n h_6.c, .slice h_7.p h_7.n h_7.c] t_api_Host (0, 0))) (fun H1 : Heap =>
  letH (H1.push (.cells #[.int .i64 (0 : Int), .int .i64 (0 : Int), .int .u64 (0 : Int), .int .u64 (0 : Int)] t_api_Certificate (0, 0))) (fun H2 : Heap =>
  ∃ J_ : Bool → Heap → Prop, (
  CallsH Tryz.prog n_ref18_Valid #[.slice l.p l.n l.c] H2 (fun v H3 =>
  ∃ x : Bool, v = .bool x ∧ (
  iteB (!x) (
  J_ true H3) (
  ∃ x1 : Int, rd H3 (⟨H.size, 0, none⟩ : Addr) = some (.int .i64 x1) ∧ ∃ x2 : Sl, rd H3 ((⟨H.size, 0, none⟩ : Addr).add 1) = some (.slice x2.p x2.n x2.c) ∧ ∃ x3 : Sl, rd H3 ((⟨H.size, 0, none⟩ : Addr).add 2) = some (.slice x3.p x3.n x3.c) ∧ ∃ x4 : Sl, rd H3 ((⟨H.size, 0, none⟩ : Addr).add 3) = some (.slice x4.p x4.n x4.c) ∧ ∃ x5 : Sl, rd H3 ((⟨H.size, 0, none⟩ : Addr).add 4) = some (.slice x5.p x5.n x5.c) ∧ ∃ x6 : Sl, rd H3 ((⟨H.size, 0, none⟩ : Addr).add 5) = some (.slice x6.p x6.n x6.c) ∧ ∃ x7 : Sl, rd H3 ((⟨H.size, 0, none⟩ : Addr).add 6) = some (.slice x7.p x7.n x7.c) ∧ ∃ x8 : Sl, rd H3 ((⟨H.size, 0, none⟩ : Addr).add 7) = some (.slice x8.p x8.n x8.c) ∧ (
  CallsH Tryz.prog n_ref21_ValidHost #[.agg #[.int .i64 x1, .slice x2.p x2.n x2.c, .slice x3.p x3.n x3.c, .slice x4.p x4.n x4.c, .slice x5.p x5.n x5.c, .slice x6.p x6.n x6.c, .slice x7.p x7.n x7.c, .slice x8.p x8.n x8.c]] H3 (fun v1 H4 =>
  ∃ x9 : Bool, v1 = .bool x9 ∧ (
  J_ (!x9) H4))))))) ∧ (∀ x10 : Bool, ∀ H5 : Heap, J_ x10 H5 → F_ref21_Assign_k5 R H l H1 x10 H5)))

theorem F_ref21_Assign_eq (R : Value → Heap → Prop) (l : Sl) (h_0 : Int) (h_1 : Sl) (h_2 : Sl) (h_3 : Sl) (h_4 : Sl) (h_5 : Sl) (h_6 : Sl) (h_7 : Sl) (H : Heap) : wpF Tryz.prog Tryz.f7 [(10, .int .i64 0), (11, .int .i64 0), (14, .int .i64 0), (15, .int .i64 0), (24, .bool false)] [(2, [24], [0, 3, 5])] [(8, [10], [0, 3, 5, 7, 9]), (12, [11], [0, 3, 5, 7, 9]), (18, [14], [0, 5, 7, 9]), (21, [15], [0, 5, 7, 9, 14])] [20] [.slice l.p l.n l.c, .agg #[.int .i64 h_0, .slice h_1.p h_1.n h_1.c, .slice h_2.p h_2.n h_2.c, .slice h_3.p h_3.n h_3.c, .slice h_4.p h_4.n h_4.c, .slice h_5.p h_5.n h_5.c, .slice h_6.p h_6.n h_6.c, .slice h_7.p h_7.n h_7.c]] H R = F_ref21_Assign R l h_0 h_1 h_2 h_3 h_4 h_5 h_6 h_7 H := by kernel_rfl

theorem F_ref21_Assign_ok {R : Value → Heap → Prop} (l : Sl) (h_0 : Int) (h_1 : Sl) (h_2 : Sl) (h_3 : Sl) (h_4 : Sl) (h_5 : Sl) (h_6 : Sl) (h_7 : Sl) {H : Heap} (h : F_ref21_Assign R l h_0 h_1 h_2 h_3 h_4 h_5 h_6 h_7 H) : CallsH Tryz.prog n_ref21_Assign #[.slice l.p l.n l.c, .agg #[.int .i64 h_0, .slice h_1.p h_1.n h_1.c, .slice h_2.p h_2.n h_2.c, .slice h_3.p h_3.n h_3.c, .slice h_4.p h_4.n h_4.c, .slice h_5.p h_5.n h_5.c, .slice h_6.p h_6.n h_6.c, .slice h_7.p h_7.n h_7.c]] H R :=
  wpF_ok Tryz.func7 (F_ref21_Assign_eq R l h_0 h_1 h_2 h_3 h_4 h_5 h_6 h_7 H) h

/-! ### 8: platformfw/platformfwhelp.Equal[platformfw/api.Assignment] -/

/-! ### 9: platformfw/allocate.ValidHost -/

/-! ### 10: platformfw/platformfwref21.ValidHost -/

def F_ref21_ValidHost_r1 (R : Value → Heap → Prop) (H : Heap) (I_ : Int → Heap → Prop) (M_ : Int → Heap → Nat) (i : Int) (H7 : Heap) : Prop :=
  ∃ x14 : Sl, rd H7 ((⟨H.size, 0, none⟩ : Addr).add 7) = some (.slice x14.p x14.n x14.c) ∧ (
  iteB (decide (i < (x14.n : Int))) (
  ∃ x15 : Sl, rd H7 ((⟨H.size, 0, none⟩ : Addr).add 7) = some (.slice x15.p x15.n x15.c) ∧ (
  0 ≤ i ∧ i < (x15.n : Int) ∧ (unSome x15.p (fun a =>
  ∃ x16 : Int, rd H7 (a.add (i.toNat * 3)) = some (.int .i64 x16) ∧ ∃ x17 : Int, rd H7 ((a.add (i.toNat * 3)).add 1) = some (.int .i64 x17) ∧ ∃ x18 : Int, rd H7 ((a.add (i.toNat * 3)).add 2) = some (.int .i64 x18) ∧ (
  letH (H7.push (.cells #[.int .i64 (0 : Int), .int .i64 (0 : Int), .int .i64 (0 : Int)] t_api_Route (0, 0))) (fun H8 : Heap =>
  okRow H8 (⟨H7.size, 0, none⟩ : Addr) 3 ∧ (
  letH (wrs H8 (⟨H7.size, 0, none⟩ : Addr) [.int .i64 x16, .int .i64 x17, .int .i64 x18]) (fun H9 : Heap =>
  ∃ x19 : Int, rd H9 (⟨H7.size, 0, none⟩ : Addr) = some (.int .i64 x19) ∧ (
  iteB (decide (x19 < (0 : Int))) (
  R (.bool false) H9) (
  ∃ x20 : Int, rd H9 (⟨H7.size, 0, none⟩ : Addr) = some (.int .i64 x20) ∧ (
  iteB (decide (x20 > (31 : Int))) (
  R (.bool false) H9) (
  ∃ x21 : Int, rd H9 ((⟨H7.size, 0, none⟩ : Addr).add 1) = some (.int .i64 x21) ∧ (
  iteB (decide (x21 < (1 : Int))) (
  R (.bool false) H9) (
  ∃ x22 : Int, rd H9 ((⟨H7.size, 0, none⟩ : Addr).add 1) = some (.int .i64 x22) ∧ (
  iteB (decide (x22 > (4 : Int))) (
  R (.bool false) H9) (
  ∃ x23 : Int, rd H9 ((⟨H7.size, 0, none⟩ : Addr).add 2) = some (.int .i64 x23) ∧ (
  iteB (decide (x23 < (0 : Int))) (
  R (.bool false) H9) (
  ∃ x24 : Int, rd H9 ((⟨H7.size, 0, none⟩ : Addr).add 2) = some (.int .i64 x24) ∧ (
  ∃ x25 : Sl, rd H9 ((⟨H.size, 0, none⟩ : Addr).add 6) = some (.slice x25.p x25.n x25.c) ∧ (
  iteB (decide (x24 ≥ (x25.n : Int))) (
  R (.bool false) H9) (
  letV (IntKind.i64.wrap (i + (1 : Int))) (fun i1 : Int =>
  I_ i1 H9 ∧ M_ i1 H9 < M_ i H7)))))))))))))))))))))) (
  R (.bool true) H7))

def F_ref21_ValidHost (R : Value → Heap → Prop) (h_0 : Int) (h_1 : Sl) (h_2 : Sl) (h_3 : Sl) (h_4 : Sl) (h_5 : Sl) (h_6 : Sl) (h_7 : Sl) (H : Heap) : Prop :=
  letH (H.push (.cells #[.int .i64 h_0, .slice h_1.p h_1.n h_1.c, .slice h_2.p h_2.n h_2.c, .slice h_3.p h_3.n h_3.c, .slice h_4.p h_4.n h_4.c, .slice h_5.p h_5.n h_5.c, .slice h_6.p h_6.n h_6.c, .slice h_7.p h_7.n h_7.c] t_api_Host (0, 0))) (fun H1 : Heap =>
  ∃ x : Int, rd H1 (⟨H.size, 0, none⟩ : Addr) = some (.int .i64 x) ∧ (
  iteB (decide (x < (1 : Int))) (
  R (.bool false) H1) (
  ∃ x1 : Int, rd H1 (⟨H.size, 0, none⟩ : Addr) = some (.int .i64 x1) ∧ (
  iteB (decide (x1 > (256 : Int))) (
  R (.bool false) H1) (
  ∃ x2 : Sl, rd H1 ((⟨H.size, 0, none⟩ : Addr).add 6) = some (.slice x2.p x2.n x2.c) ∧ (
  iteB (decide ((x2.n : Int) > (16 : Int))) (
  R (.bool false) H1) (
  ∃ x3 : Sl, rd H1 ((⟨H.size, 0, none⟩ : Addr).add 7) = some (.slice x3.p x3.n x3.c) ∧ (
  iteB (decide ((x3.n : Int) > (128 : Int))) (
  R (.bool false) H1) (
  ∃ x4 : Sl, rd H1 ((⟨H.size, 0, none⟩ : Addr).add 1) = some (.slice x4.p x4.n x4.c) ∧ (
  CallsH Tryz.prog n_ref21_within #[.slice x4.p x4.n x4.c, .int .u64 (0 : Int), .int .u64 (65536 : Int)] H1 (fun v H2 =>
  ∃ x5 : Bool, v = .bool x5 ∧ (
  iteB (!x5) (
  R (.bool false) H2) (
  ∃ x6 : Sl, rd H2 ((⟨H.size, 0, none⟩ : Addr).add 4) = some (.slice x6.p x6.n x6.c) ∧ (
  CallsH Tryz.prog n_ref21_within #[.slice x6.p x6.n x6.c, .int .u64 (0 : Int), .int .u64 (65536 : Int)] H2 (fun v1 H3 =>
  ∃ x7 : Bool, v1 = .bool x7 ∧ (
  iteB (!x7) (
  R (.bool false) H3) (
  ∃ x8 : Sl, rd H3 ((⟨H.size, 0, none⟩ : Addr).add 2) = some (.slice x8.p x8.n x8.c) ∧ (
  CallsH Tryz.prog n_ref21_within #[.slice x8.p x8.n x8.c, .int .u64 (0 : Int), .int .u64 (4294967296 : Int)] H3 (fun v2 H4 =>
  ∃ x9 : Bool, v2 = .bool x9 ∧ (
  iteB (!x9) (
  R (.bool false) H4) (
  ∃ x10 : Sl, rd H4 ((⟨H.size, 0, none⟩ : Addr).add 5) = some (.slice x10.p x10.n x10.c) ∧ (
  CallsH Tryz.prog n_ref21_within #[.slice x10.p x10.n x10.c, .int .u64 (0 : Int), .int .u64 (4503599627370496 : Int)] H4 (fun v3 H5 =>
  ∃ x11 : Bool, v3 = .bool x11 ∧ (
  iteB (!x11) (
  R (.bool false) H5) (
  ∃ x12 : Sl, rd H5 ((⟨H.size, 0, none⟩ : Addr).add 3) = some (.slice x12.p x12.n x12.c) ∧ (
  CallsH Tryz.prog n_ref21_within #[.slice x12.p x12.n x12.c, .int .u64 (4294967296 : Int), .int .u64 (4503599627370496 : Int)] H5 (fun v4 H6 =>
  ∃ x13 : Bool, v4 = .bool x13 ∧ (
  iteB (!x13) (
  R (.bool false) H6) (
  ∃ I_ : Int → Heap → Prop, ∃ M_ : Int → Heap → Nat, I_ (0 : Int) H6 ∧ (∀ i : Int, ∀ H7 : Heap, I_ i H7 → F_ref21_ValidHost_r1 R H I_ M_ i H7))))))))))))))))))))))))))))))

theorem F_ref21_ValidHost_eq (R : Value → Heap → Prop) (h_0 : Int) (h_1 : Sl) (h_2 : Sl) (h_3 : Sl) (h_4 : Sl) (h_5 : Sl) (h_6 : Sl) (h_7 : Sl) (H : Heap) : wpF Tryz.prog Tryz.f10 [(3, .int .i64 0)] [] [(6, [3], [1])] [20] [.agg #[.int .i64 h_0, .slice h_1.p h_1.n h_1.c, .slice h_2.p h_2.n h_2.c, .slice h_3.p h_3.n h_3.c, .slice h_4.p h_4.n h_4.c, .slice h_5.p h_5.n h_5.c, .slice h_6.p h_6.n h_6.c, .slice h_7.p h_7.n h_7.c]] H R = F_ref21_ValidHost R h_0 h_1 h_2 h_3 h_4 h_5 h_6 h_7 H := by kernel_rfl

theorem F_ref21_ValidHost_ok {R : Value → Heap → Prop} (h_0 : Int) (h_1 : Sl) (h_2 : Sl) (h_3 : Sl) (h_4 : Sl) (h_5 : Sl) (h_6 : Sl) (h_7 : Sl) {H : Heap} (h : F_ref21_ValidHost R h_0 h_1 h_2 h_3 h_4 h_5 h_6 h_7 H) : CallsH Tryz.prog n_ref21_ValidHost #[.agg #[.int .i64 h_0, .slice h_1.p h_1.n h_1.c, .slice h_2.p h_2.n h_2.c, .slice h_3.p h_3.n h_3.c, .slice h_4.p h_4.n h_4.c, .slice h_5.p h_5.n h_5.c, .slice h_6.p h_6.n h_6.c, .slice h_7.p h_7.n h_7.c]] H R :=
  wpF_ok Tryz.func10 (F_ref21_ValidHost_eq R h_0 h_1 h_2 h_3 h_4 h_5 h_6 h_7 H) h

/-! ### 11: platformfw/platformfwgen.Host -/

def F_gen_Host_k1 (H3 : Heap) (I_ : Int → Heap → Prop) (M_ : Int → Heap → Nat) (i : Int) (H27 : Heap) (H31 : Heap) : Prop :=
  ∃ x22 : Sl, rd H31 ((⟨H3.size, 0, none⟩ : Addr).add 6) = some (.slice x22.p x22.n x22.c) ∧ (
  ∃ x23 : Int, rd H31 (⟨H27.size, 0, none⟩ : Addr) = some (.int .u32 x23) ∧ (
  letH (H31.push (.cells #[.int .u32 x23] t_api_IntLink (0, 0))) (fun H32 : Heap =>
  runH Tryz.prog (Builtin.append_ #[t_sl_api_IntLink, t_sl_api_IntLink] t_sl_api_IntLink #[.slice x22.p x22.n x22.c, .slice (some (⟨H31.size, 0, none⟩ : Addr)) 1 1]) H32 (fun v8 H33 =>
  ∃ x24 : Sl, v8 = .slice x24.p x24.n x24.c ∧ (
  okRow H33 ((⟨H3.size, 0, none⟩ : Addr).add 6) 1 ∧ (
  letH (wrs H33 ((⟨H3.size, 0, none⟩ : Addr).add 6) [.slice x24.p x24.n x24.c]) (fun H34 : Heap =>
  letV (IntKind.i64.wrap (i + (1 : Int))) (fun i1 : Int =>
  I_ i1 H34 ∧ M_ i1 H34 < M_ i H27))))))))

def F_gen_Host_r2 (H : Heap) (H3 : Heap) (J_2 : Heap → Prop) (I_ : Int → Heap → Prop) (M_ : Int → Heap → Nat) (i : Int) (H27 : Heap) : Prop :=
  ∃ x18 : Sl, rd H27 ((⟨H.size, 0, none⟩ : Addr).add 6) = some (.slice x18.p x18.n x18.c) ∧ (
  iteB (decide (i < (x18.n : Int))) (
  iteB (decide (i < (5 : Int))) (
  ∃ x19 : Sl, rd H27 ((⟨H.size, 0, none⟩ : Addr).add 6) = some (.slice x19.p x19.n x19.c) ∧ (
  0 ≤ i ∧ i < (x19.n : Int) ∧ (unSome x19.p (fun a =>
  ∃ x20 : Int, rd H27 (a.add (i.toNat * 1)) = some (.int .u32 x20) ∧ (
  letH (H27.push (.cells #[.int .u32 (0 : Int)] t_api_IntLink (0, 0))) (fun H28 : Heap =>
  okRow H28 (⟨H27.size, 0, none⟩ : Addr) 1 ∧ (
  letH (wrs H28 (⟨H27.size, 0, none⟩ : Addr) [.int .u32 x20]) (fun H29 : Heap =>
  ∃ J_3 : Heap → Prop, (
  ∃ x21 : Int, rd H29 (⟨H27.size, 0, none⟩ : Addr) = some (.int .u32 x21) ∧ (
  iteB (x21 == (0 : Int)) (
  iteB ((i.tmod (2 : Int)) == (0 : Int)) (
  okRow H29 (⟨H27.size, 0, none⟩ : Addr) 1 ∧ (
  letH (wrs H29 (⟨H27.size, 0, none⟩ : Addr) [.int .u32 (7680 : Int)]) (fun H30 : Heap =>
  J_3 H30))) (
  J_3 H29)) (
  J_3 H29))) ∧ (∀ H31 : Heap, J_3 H31 → F_gen_Host_k1 H3 I_ M_ i H27 H31))))))))) (
  J_2 H27)) (
  J_2 H27))

def F_gen_Host_r3 (H : Heap) (H3 : Heap) (J_4 : Heap → Prop) (I_1 : Int → Heap → Prop) (M_1 : Int → Heap → Nat) (i2 : Int) (H36 : Heap) : Prop :=
  ∃ x25 : Sl, rd H36 ((⟨H.size, 0, none⟩ : Addr).add 7) = some (.slice x25.p x25.n x25.c) ∧ (
  iteB (decide (i2 < (x25.n : Int))) (
  iteB (decide (i2 < (40 : Int))) (
  ∃ x26 : Sl, rd H36 ((⟨H3.size, 0, none⟩ : Addr).add 6) = some (.slice x26.p x26.n x26.c) ∧ (
  iteB (decide ((x26.n : Int) > (0 : Int))) (
  ∃ x27 : Sl, rd H36 ((⟨H3.size, 0, none⟩ : Addr).add 7) = some (.slice x27.p x27.n x27.c) ∧ (
  ∃ x28 : Sl, rd H36 ((⟨H.size, 0, none⟩ : Addr).add 7) = some (.slice x28.p x28.n x28.c) ∧ (
  0 ≤ i2 ∧ i2 < (x28.n : Int) ∧ (unSome x28.p (fun a1 =>
  ∃ x29 : Int, rd H36 (a1.add (i2.toNat * 3)) = some (.int .i64 x29) ∧ (
  CallsP Tryz.prog n_help_Mod #[.int .i64 x29, .int .i64 (8 : Int)] (fun v9 =>
  ∃ x30 : Int, v9 = .int .i64 x30 ∧ (
  ∃ x31 : Sl, rd H36 ((⟨H.size, 0, none⟩ : Addr).add 7) = some (.slice x31.p x31.n x31.c) ∧ (
  0 ≤ i2 ∧ i2 < (x31.n : Int) ∧ (unSome x31.p (fun a2 =>
  ∃ x32 : Int, rd H36 ((a2.add (i2.toNat * 3)).add 1) = some (.int .i64 x32) ∧ (
  CallsP Tryz.prog n_help_Mod #[.int .i64 x32, .int .i64 (4 : Int)] (fun v10 =>
  ∃ x33 : Int, v10 = .int .i64 x33 ∧ (
  ∃ x34 : Sl, rd H36 ((⟨H.size, 0, none⟩ : Addr).add 7) = some (.slice x34.p x34.n x34.c) ∧ (
  0 ≤ i2 ∧ i2 < (x34.n : Int) ∧ (unSome x34.p (fun a3 =>
  ∃ x35 : Int, rd H36 ((a3.add (i2.toNat * 3)).add 2) = some (.int .i64 x35) ∧ (
  ∃ x36 : Sl, rd H36 ((⟨H3.size, 0, none⟩ : Addr).add 6) = some (.slice x36.p x36.n x36.c) ∧ (
  CallsP Tryz.prog n_help_Mod #[.int .i64 x35, .int .i64 (x36.n : Int)] (fun v11 =>
  ∃ x37 : Int, v11 = .int .i64 x37 ∧ (
  letH (H36.push (.cells #[.int .i64 x30, .int .i64 (IntKind.i64.wrap ((1 : Int) + x33)), .int .i64 x37] t_api_Route (0, 0))) (fun H37 : Heap =>
  Keeps H36 H37 [(((⟨H3.size, 0, none⟩ : Addr).add 7), 1)] ∧ (
  runH Tryz.prog (Builtin.append_ #[t_sl_api_Route, t_sl_api_Route] t_sl_api_Route #[.slice x27.p x27.n x27.c, .slice (some (⟨H36.size, 0, none⟩ : Addr)) 1 1]) H37 (fun v12 H38 =>
  ∃ x38 : Sl, v12 = .slice x38.p x38.n x38.c ∧ (
  okRow H38 ((⟨H3.size, 0, none⟩ : Addr).add 7) 1 ∧ (
  letH (wrs H38 ((⟨H3.size, 0, none⟩ : Addr).add 7) [.slice x38.p x38.n x38.c]) (fun H39 : Heap =>
  letV (IntKind.i64.wrap (i2 + (1 : Int))) (fun i3 : Int =>
  I_1 i3 H39 ∧ M_1 i3 H39 < M_1 i2 H36)))))))))))))))))))))))))))) (
  J_4 H36))) (
  J_4 H36)) (
  J_4 H36))

def F_gen_Host_r4 (R : Value → Heap → Prop) (H1 : Heap) (H3 : Heap) (I_2 : Int → Heap → Prop) (M_2 : Int → Heap → Nat) (i4 : Int) (H41 : Heap) : Prop :=
  iteB (decide (i4 < (32 : Int))) (
  ∃ x39 : Sl, rd H41 ((⟨H3.size, 0, none⟩ : Addr).add 6) = some (.slice x39.p x39.n x39.c) ∧ (
  iteB (decide ((x39.n : Int) > (0 : Int))) (
  ∃ x40 : Sl, rd H41 ((⟨H3.size, 0, none⟩ : Addr).add 7) = some (.slice x40.p x40.n x40.c) ∧ (
  ∃ x41 : Sl, rd H41 ((⟨H3.size, 0, none⟩ : Addr).add 6) = some (.slice x41.p x41.n x41.c) ∧ (
  (x41.n : Int) ≠ 0 ∧ (
  letH (H41.push (.cells #[.int .i64 (i4.tmod (8 : Int)), .int .i64 (IntKind.i64.wrap ((1 : Int) + (IntKind.i64.wrap (i4.tdiv (8 : Int))))), .int .i64 (i4.tmod (x41.n : Int))] t_api_Route (0, 0))) (fun H42 : Heap =>
  Keeps H41 H42 [(((⟨H3.size, 0, none⟩ : Addr).add 7), 1)] ∧ (
  runH Tryz.prog (Builtin.append_ #[t_sl_api_Route, t_sl_api_Route] t_sl_api_Route #[.slice x40.p x40.n x40.c, .slice (some (⟨H41.size, 0, none⟩ : Addr)) 1 1]) H42 (fun v13 H43 =>
  ∃ x42 : Sl, v13 = .slice x42.p x42.n x42.c ∧ (
  okRow H43 ((⟨H3.size, 0, none⟩ : Addr).add 7) 1 ∧ (
  letH (wrs H43 ((⟨H3.size, 0, none⟩ : Addr).add 7) [.slice x42.p x42.n x42.c]) (fun H44 : Heap =>
  letV (IntKind.i64.wrap (i4 + (1 : Int))) (fun i5 : Int =>
  I_2 i5 H44 ∧ M_2 i5 H44 < M_2 i4 H41))))))))))) (
  ∃ x43 : Int, rd H41 (⟨H3.size, 0, none⟩ : Addr) = some (.int .i64 x43) ∧ ∃ x44 : Sl, rd H41 ((⟨H3.size, 0, none⟩ : Addr).add 1) = some (.slice x44.p x44.n x44.c) ∧ ∃ x45 : Sl, rd H41 ((⟨H3.size, 0, none⟩ : Addr).add 2) = some (.slice x45.p x45.n x45.c) ∧ ∃ x46 : Sl, rd H41 ((⟨H3.size, 0, none⟩ : Addr).add 3) = some (.slice x46.p x46.n x46.c) ∧ ∃ x47 : Sl, rd H41 ((⟨H3.size, 0, none⟩ : Addr).add 4) = some (.slice x47.p x47.n x47.c) ∧ ∃ x48 : Sl, rd H41 ((⟨H3.size, 0, none⟩ : Addr).add 5) = some (.slice x48.p x48.n x48.c) ∧ ∃ x49 : Sl, rd H41 ((⟨H3.size, 0, none⟩ : Addr).add 6) = some (.slice x49.p x49.n x49.c) ∧ ∃ x50 : Sl, rd H41 ((⟨H3.size, 0, none⟩ : Addr).add 7) = some (.slice x50.p x50.n x50.c) ∧ (
  okRow H41 (⟨H1.size, 0, none⟩ : Addr) 8 ∧ (
  letH (wrs H41 (⟨H1.size, 0, none⟩ : Addr) [.int .i64 x43, .slice x44.p x44.n x44.c, .slice x45.p x45.n x45.c, .slice x46.p x46.n x46.c, .slice x47.p x47.n x47.c, .slice x48.p x48.n x48.c, .slice x49.p x49.n x49.c, .slice x50.p x50.n x50.c]) (fun H45 : Heap =>
  ∃ r : Int, rd H45 (⟨H1.size, 0, none⟩ : Addr) = some (.int .i64 r) ∧ ∃ r1 : Sl, rd H45 ((⟨H1.size, 0, none⟩ : Addr).add 1) = some (.slice r1.p r1.n r1.c) ∧ ∃ r2 : Sl, rd H45 ((⟨H1.size, 0, none⟩ : Addr).add 2) = some (.slice r2.p r2.n r2.c) ∧ ∃ r3 : Sl, rd H45 ((⟨H1.size, 0, none⟩ : Addr).add 3) = some (.slice r3.p r3.n r3.c) ∧ ∃ r4 : Sl, rd H45 ((⟨H1.size, 0, none⟩ : Addr).add 4) = some (.slice r4.p r4.n r4.c) ∧ ∃ r5 : Sl, rd H45 ((⟨H1.size, 0, none⟩ : Addr).add 5) = some (.slice r5.p r5.n r5.c) ∧ ∃ r6 : Sl, rd H45 ((⟨H1.size, 0, none⟩ : Addr).add 6) = some (.slice r6.p r6.n r6.c) ∧ ∃ r7 : Sl, rd H45 ((⟨H1.size, 0, none⟩ : Addr).add 7) = some (.slice r7.p r7.n r7.c) ∧ (
  R (.agg #[.int .i64 r, .slice r1.p r1.n r1.c, .slice r2.p r2.n r2.c, .slice r3.p r3.n r3.c, .slice r4.p r4.n r4.c, .slice r5.p r5.n r5.c, .slice r6.p r6.n r6.c, .slice r7.p r7.n r7.c]) H45))))))) (
  ∃ x51 : Int, rd H41 (⟨H3.size, 0, none⟩ : Addr) = some (.int .i64 x51) ∧ ∃ x52 : Sl, rd H41 ((⟨H3.size, 0, none⟩ : Addr).add 1) = some (.slice x52.p x52.n x52.c) ∧ ∃ x53 : Sl, rd H41 ((⟨H3.size, 0, none⟩ : Addr).add 2) = some (.slice x53.p x53.n x53.c) ∧ ∃ x54 : Sl, rd H41 ((⟨H3.size, 0, none⟩ : Addr).add 3) = some (.slice x54.p x54.n x54.c) ∧ ∃ x55 : Sl, rd H41 ((⟨H3.size, 0, none⟩ : Addr).add 4) = some (.slice x55.p x55.n x55.c) ∧ ∃ x56 : Sl, rd H41 ((⟨H3.size, 0, none⟩ : Addr).add 5) = some (.slice x56.p x56.n x56.c) ∧ ∃ x57 : Sl, rd H41 ((⟨H3.size, 0, none⟩ : Addr).add 6) = some (.slice x57.p x57.n x57.c) ∧ ∃ x58 : Sl, rd H41 ((⟨H3.size, 0, none⟩ : Addr).add 7) = some (.slice x58.p x58.n x58.c) ∧ (
  okRow H41 (⟨H1.size, 0, none⟩ : Addr) 8 ∧ (
  letH (wrs H41 (⟨H1.size, 0, none⟩ : Addr) [.int .i64 x51, .slice x52.p x52.n x52.c, .slice x53.p x53.n x53.c, .slice x54.p x54.n x54.c, .slice x55.p x55.n x55.c, .slice x56.p x56.n x56.c, .slice x57.p x57.n x57.c, .slice x58.p x58.n x58.c]) (fun H46 : Heap =>
  ∃ r8 : Int, rd H46 (⟨H1.size, 0, none⟩ : Addr) = some (.int .i64 r8) ∧ ∃ r9 : Sl, rd H46 ((⟨H1.size, 0, none⟩ : Addr).add 1) = some (.slice r9.p r9.n r9.c) ∧ ∃ r10 : Sl, rd H46 ((⟨H1.size, 0, none⟩ : Addr).add 2) = some (.slice r10.p r10.n r10.c) ∧ ∃ r11 : Sl, rd H46 ((⟨H1.size, 0, none⟩ : Addr).add 3) = some (.slice r11.p r11.n r11.c) ∧ ∃ r12 : Sl, rd H46 ((⟨H1.size, 0, none⟩ : Addr).add 4) = some (.slice r12.p r12.n r12.c) ∧ ∃ r13 : Sl, rd H46 ((⟨H1.size, 0, none⟩ : Addr).add 5) = some (.slice r13.p r13.n r13.c) ∧ ∃ r14 : Sl, rd H46 ((⟨H1.size, 0, none⟩ : Addr).add 6) = some (.slice r14.p r14.n r14.c) ∧ ∃ r15 : Sl, rd H46 ((⟨H1.size, 0, none⟩ : Addr).add 7) = some (.slice r15.p r15.n r15.c) ∧ (
  R (.agg #[.int .i64 r8, .slice r9.p r9.n r9.c, .slice r10.p r10.n r10.c, .slice r11.p r11.n r11.c, .slice r12.p r12.n r12.c, .slice r13.p r13.n r13.c, .slice r14.p r14.n r14.c, .slice r15.p r15.n r15.c]) H46)))))

def F_gen_Host_k5 (R : Value → Heap → Prop) (H1 : Heap) (H3 : Heap) (H40 : Heap) : Prop :=
  ∃ I_2 : Int → Heap → Prop, ∃ M_2 : Int → Heap → Nat, I_2 (0 : Int) H40 ∧ (∀ i4 : Int, ∀ H41 : Heap, I_2 i4 H41 → F_gen_Host_r4 R H1 H3 I_2 M_2 i4 H41)

def F_gen_Host_k6 (R : Value → Heap → Prop) (H : Heap) (H1 : Heap) (H3 : Heap) (H35 : Heap) : Prop :=
  ∃ J_4 : Heap → Prop, (
  ∃ I_1 : Int → Heap → Prop, ∃ M_1 : Int → Heap → Nat, I_1 (0 : Int) H35 ∧ (∀ i2 : Int, ∀ H36 : Heap, I_1 i2 H36 → F_gen_Host_r3 H H3 J_4 I_1 M_1 i2 H36)) ∧ (∀ H40 : Heap, J_4 H40 → F_gen_Host_k5 R H1 H3 H40)

def F_gen_Host_k7 (R : Value → Heap → Prop) (H : Heap) (H1 : Heap) (H3 : Heap) (H26 : Heap) : Prop :=
  ∃ J_2 : Heap → Prop, (
  ∃ I_ : Int → Heap → Prop, ∃ M_ : Int → Heap → Nat, I_ (0 : Int) H26 ∧ (∀ i : Int, ∀ H27 : Heap, I_ i H27 → F_gen_Host_r2 H H3 J_2 I_ M_ i H27)) ∧ (∀ H35 : Heap, J_2 H35 → F_gen_Host_k6 R H H1 H3 H35)

def F_gen_Host_k8 (R : Value → Heap → Prop) (H : Heap) (H1 : Heap) (H3 : Heap) (H8 : Heap) : Prop :=
  ∃ x4 : Sl, rd H8 ((⟨H.size, 0, none⟩ : Addr).add 1) = some (.slice x4.p x4.n x4.c) ∧ (
  CallsH Tryz.prog n_gen_ranges #[.slice x4.p x4.n x4.c, .int .u64 (4096 : Int), .int .u64 (65536 : Int), .int .u64 (1024 : Int), .int .i64 (3 : Int)] H8 (fun v2 H9 =>
  ∃ x5 : Sl, v2 = .slice x5.p x5.n x5.c ∧ (
  okRow H9 ((⟨H3.size, 0, none⟩ : Addr).add 1) 1 ∧ (
  letH (wrs H9 ((⟨H3.size, 0, none⟩ : Addr).add 1) [.slice x5.p x5.n x5.c]) (fun H10 : Heap =>
  ∃ x6 : Sl, rd H10 ((⟨H.size, 0, none⟩ : Addr).add 2) = some (.slice x6.p x6.n x6.c) ∧ (
  CallsH Tryz.prog n_gen_ranges #[.slice x6.p x6.n x6.c, .int .u64 (16777216 : Int), .int .u64 (4294967296 : Int), .int .u64 (262144 : Int), .int .i64 (3 : Int)] H10 (fun v3 H11 =>
  ∃ x7 : Sl, v3 = .slice x7.p x7.n x7.c ∧ (
  okRow H11 ((⟨H3.size, 0, none⟩ : Addr).add 2) 1 ∧ (
  letH (wrs H11 ((⟨H3.size, 0, none⟩ : Addr).add 2) [.slice x7.p x7.n x7.c]) (fun H12 : Heap =>
  ∃ x8 : Sl, rd H12 ((⟨H.size, 0, none⟩ : Addr).add 3) = some (.slice x8.p x8.n x8.c) ∧ (
  CallsH Tryz.prog n_gen_ranges #[.slice x8.p x8.n x8.c, .int .u64 (4294967296 : Int), .int .u64 (1099511627776 : Int), .int .u64 (268435456 : Int), .int .i64 (2 : Int)] H12 (fun v4 H13 =>
  ∃ x9 : Sl, v4 = .slice x9.p x9.n x9.c ∧ (
  okRow H13 ((⟨H3.size, 0, none⟩ : Addr).add 3) 1 ∧ (
  letH (wrs H13 ((⟨H3.size, 0, none⟩ : Addr).add 3) [.slice x9.p x9.n x9.c]) (fun H14 : Heap =>
  ∃ x10 : Sl, rd H14 ((⟨H.size, 0, none⟩ : Addr).add 4) = some (.slice x10.p x10.n x10.c) ∧ (
  CallsH Tryz.prog n_gen_ranges #[.slice x10.p x10.n x10.c, .int .u64 (0 : Int), .int .u64 (65536 : Int), .int .u64 (256 : Int), .int .i64 (2 : Int)] H14 (fun v5 H15 =>
  ∃ x11 : Sl, v5 = .slice x11.p x11.n x11.c ∧ (
  okRow H15 ((⟨H3.size, 0, none⟩ : Addr).add 4) 1 ∧ (
  letH (wrs H15 ((⟨H3.size, 0, none⟩ : Addr).add 4) [.slice x11.p x11.n x11.c]) (fun H16 : Heap =>
  ∃ x12 : Sl, rd H16 ((⟨H.size, 0, none⟩ : Addr).add 5) = some (.slice x12.p x12.n x12.c) ∧ (
  CallsH Tryz.prog n_gen_ranges #[.slice x12.p x12.n x12.c, .int .u64 (0 : Int), .int .u64 (4294967296 : Int), .int .u64 (65536 : Int), .int .i64 (2 : Int)] H16 (fun v6 H17 =>
  ∃ x13 : Sl, v6 = .slice x13.p x13.n x13.c ∧ (
  okRow H17 ((⟨H3.size, 0, none⟩ : Addr).add 5) 1 ∧ (
  letH (wrs H17 ((⟨H3.size, 0, none⟩ : Addr).add 5) [.slice x13.p x13.n x13.c]) (fun H18 : Heap =>
  ∃ J_1 : Heap → Prop, (
  ∃ x14 : Int, rd H18 (⟨H.size, 0, none⟩ : Addr) = some (.int .i64 x14) ∧ (
  CallsH Tryz.prog n_help_Mod #[.int .i64 x14, .int .i64 (3 : Int)] H18 (fun v7 H19 =>
  ∃ x15 : Int, v7 = .int .i64 x15 ∧ (
  iteB (decide (x15 > (0 : Int))) (
  ∃ x16 : Sl, rd H19 ((⟨H3.size, 0, none⟩ : Addr).add 4) = some (.slice x16.p x16.n x16.c) ∧ (
  0 ≤ (0 : Int) ∧ (0 : Int) ≤ (x16.c : Int) ∧ (
  letH (H19.push (.cells #[.int .u64 (4096 : Int), .int .u64 (61440 : Int)] t_api_Range (0, 0))) (fun H20 : Heap =>
  Keeps H19 H20 [(((⟨H3.size, 0, none⟩ : Addr).add 4), 1)] ∧ (
  okRow H20 ((⟨H3.size, 0, none⟩ : Addr).add 1) 1 ∧ (
  letH (wrs H20 ((⟨H3.size, 0, none⟩ : Addr).add 1) [.slice (some (⟨H19.size, 0, none⟩ : Addr)) 1 1]) (fun H21 : Heap =>
  okRow H21 ((⟨H3.size, 0, none⟩ : Addr).add 4) 1 ∧ (
  letH (wrs H21 ((⟨H3.size, 0, none⟩ : Addr).add 4) [.slice (slP x16.p x16.c 0 2) ((0 : Int).toNat - 0) (x16.c - 0)]) (fun H22 : Heap =>
  ∃ x17 : Sl, rd H22 ((⟨H3.size, 0, none⟩ : Addr).add 5) = some (.slice x17.p x17.n x17.c) ∧ (
  0 ≤ (0 : Int) ∧ (0 : Int) ≤ (x17.c : Int) ∧ (
  letH (H22.push (.cells #[.int .u64 (268435456 : Int), .int .u64 (4026531840 : Int)] t_api_Range (0, 0))) (fun H23 : Heap =>
  Keeps H22 H23 [(((⟨H3.size, 0, none⟩ : Addr).add 5), 1)] ∧ (
  okRow H23 ((⟨H3.size, 0, none⟩ : Addr).add 2) 1 ∧ (
  letH (wrs H23 ((⟨H3.size, 0, none⟩ : Addr).add 2) [.slice (some (⟨H22.size, 0, none⟩ : Addr)) 1 1]) (fun H24 : Heap =>
  okRow H24 ((⟨H3.size, 0, none⟩ : Addr).add 5) 1 ∧ (
  letH (wrs H24 ((⟨H3.size, 0, none⟩ : Addr).add 5) [.slice (slP x17.p x17.c 0 2) ((0 : Int).toNat - 0) (x17.c - 0)]) (fun H25 : Heap =>
  J_1 H25))))))))))))))))) (
  J_1 H19))))) ∧ (∀ H26 : Heap, J_1 H26 → F_gen_Host_k7 R H H1 H3 H26))))))))))))))))))))))))))

def F_gen_Host (R : Value → Heap → Prop) (h_0 : Int) (h_1 : Sl) (h_2 : Sl) (h_3 : Sl) (h_4 : Sl) (h_5 : Sl) (h_6 : Sl) (h_7 : Sl) (H : Heap) : Prop :=
  letH (H.push (.cells #[.int .i64 h_0, .slice h_1.p h_1.n h_1.c, .slice h_2.p h_2.n h_2.c, .slice h_3.p h_3.n h_3.c, .slice h_4.p h_4.n h_4.c, .slice h_5.p h_5.n h_5.c, .slice h_6.p h_6.n h_6.c, .slice h_7.p h_7.n h_7.c] t_api_Host (0, 0))) (fun H1 : Heap =>
  letH (H1.push (.cells #[.int .i64 (0 : Int), .slice none 0 0, .slice none 0 0, .slice none 0 0, .slice none 0 0, .slice none 0 0, .slice none 0 0, .slice none 0 0] t_api_Host (0, 0))) (fun H2 : Heap =>
  ∃ x : Int, rd H2 (⟨H.size, 0, none⟩ : Addr) = some (.int .i64 x) ∧ (
  CallsH Tryz.prog n_help_Mod #[.int .i64 x, .int .i64 (40 : Int)] H2 (fun v H3 =>
  ∃ x1 : Int, v = .int .i64 x1 ∧ (
  letH (H3.push (.cells #[.int .i64 (0 : Int), .slice none 0 0, .slice none 0 0, .slice none 0 0, .slice none 0 0, .slice none 0 0, .slice none 0 0, .slice none 0 0] t_api_Host (0, 0))) (fun H4 : Heap =>
  okRow H4 (⟨H3.size, 0, none⟩ : Addr) 8 ∧ (
  letH (wrs H4 (⟨H3.size, 0, none⟩ : Addr) [.int .i64 (IntKind.i64.wrap ((1 : Int) + x1)), .slice none 0 0, .slice none 0 0, .slice none 0 0, .slice none 0 0, .slice none 0 0, .slice none 0 0, .slice none 0 0]) (fun H5 : Heap =>
  ∃ J_ : Heap → Prop, (
  ∃ x2 : Int, rd H5 (⟨H.size, 0, none⟩ : Addr) = some (.int .i64 x2) ∧ (
  CallsH Tryz.prog n_help_Mod #[.int .i64 x2, .int .i64 (5 : Int)] H5 (fun v1 H6 =>
  ∃ x3 : Int, v1 = .int .i64 x3 ∧ (
  iteB (decide (x3 > (0 : Int))) (
  okRow H6 (⟨H3.size, 0, none⟩ : Addr) 1 ∧ (
  letH (wrs H6 (⟨H3.size, 0, none⟩ : Addr) [.int .i64 (256 : Int)]) (fun H7 : Heap =>
  J_ H7))) (
  J_ H6))))) ∧ (∀ H8 : Heap, J_ H8 → F_gen_Host_k8 R H H1 H3 H8)))))))))

theorem F_gen_Host_eq (R : Value → Heap → Prop) (h_0 : Int) (h_1 : Sl) (h_2 : Sl) (h_3 : Sl) (h_4 : Sl) (h_5 : Sl) (h_6 : Sl) (h_7 : Sl) (H : Heap) : wpF Tryz.prog Tryz.f11 [(4, .int .i64 0), (6, .int .i64 0), (7, .int .i64 0)] [(4, [], [1, 2, 3]), (12, [], [1, 2, 3]), (19, [], [1, 2, 3]), (18, [], [1, 2, 3, 4, 5]), (23, [], [2, 3])] [(13, [4], [1, 2, 3]), (20, [6], [1, 2, 3]), (24, [7], [2, 3])] [20] [.agg #[.int .i64 h_0, .slice h_1.p h_1.n h_1.c, .slice h_2.p h_2.n h_2.c, .slice h_3.p h_3.n h_3.c, .slice h_4.p h_4.n h_4.c, .slice h_5.p h_5.n h_5.c, .slice h_6.p h_6.n h_6.c, .slice h_7.p h_7.n h_7.c]] H R = F_gen_Host R h_0 h_1 h_2 h_3 h_4 h_5 h_6 h_7 H := by kernel_rfl

theorem F_gen_Host_ok {R : Value → Heap → Prop} (h_0 : Int) (h_1 : Sl) (h_2 : Sl) (h_3 : Sl) (h_4 : Sl) (h_5 : Sl) (h_6 : Sl) (h_7 : Sl) {H : Heap} (h : F_gen_Host R h_0 h_1 h_2 h_3 h_4 h_5 h_6 h_7 H) : CallsH Tryz.prog n_gen_Host #[.agg #[.int .i64 h_0, .slice h_1.p h_1.n h_1.c, .slice h_2.p h_2.n h_2.c, .slice h_3.p h_3.n h_3.c, .slice h_4.p h_4.n h_4.c, .slice h_5.p h_5.n h_5.c, .slice h_6.p h_6.n h_6.c, .slice h_7.p h_7.n h_7.c]] H R :=
  wpF_ok Tryz.func11 (F_gen_Host_eq R h_0 h_1 h_2 h_3 h_4 h_5 h_6 h_7 H) h

/-! ### 12: platformfw/platformfwlaw21.awake -/

def F_law21_awake (R : Value → Heap → Prop)  (H : Heap) : Prop :=
  letH (H.push (.cells #[.int .u64 (4096 : Int), .int .u64 (16384 : Int)] t_api_Range (0, 0))) (fun H1 : Heap =>
  letH (H1.push (.cells #[.int .i64 (12 : Int), .int .i64 (13 : Int)] t_int (0, 0))) (fun H2 : Heap =>
  CallsH Tryz.prog n_allocate_Place #[.slice (some (⟨H.size, 0, none⟩ : Addr)) 1 1, .slice (some (⟨H1.size, 0, none⟩ : Addr)) 2 2] H2 (fun v H3 =>
  ∃ x : Sl, ∃ x1 : Int, ∃ x2 : Int, ∃ x3 : Int, ∃ x4 : Int, ∃ x5 : Int, v = .tuple #[.slice x.p x.n x.c, .agg #[.int .i64 x1, .int .i64 x2, .int .u64 x3, .int .u64 x4], .int .i64 x5] ∧ (
  letH (H3.push (.cells #[.int .i64 (0 : Int), .int .i64 (0 : Int), .int .u64 (0 : Int), .int .u64 (0 : Int)] t_api_Certificate (0, 0))) (fun H4 : Heap =>
  okRow H4 (⟨H3.size, 0, none⟩ : Addr) 4 ∧ (
  letH (wrs H4 (⟨H3.size, 0, none⟩ : Addr) [.int .i64 x1, .int .i64 x2, .int .u64 x3, .int .u64 x4]) (fun H5 : Heap =>
  letH (H5.push (.cells #[.int .i64 (13 : Int), .int .i64 (13 : Int)] t_int (0, 0))) (fun H6 : Heap =>
  CallsH Tryz.prog n_allocate_Place #[.slice (some (⟨H.size, 0, none⟩ : Addr)) 1 1, .slice (some (⟨H5.size, 0, none⟩ : Addr)) 2 2] H6 (fun v1 H7 =>
  ∃ x6 : Sl, ∃ x7 : Int, ∃ x8 : Int, ∃ x9 : Int, ∃ x10 : Int, ∃ x11 : Int, v1 = .tuple #[.slice x6.p x6.n x6.c, .agg #[.int .i64 x7, .int .i64 x8, .int .u64 x9, .int .u64 x10], .int .i64 x11] ∧ (
  letH (H7.push (.cells #[.int .i64 (0 : Int), .int .i64 (0 : Int), .int .u64 (0 : Int), .int .u64 (0 : Int)] t_api_Certificate (0, 0))) (fun H8 : Heap =>
  okRow H8 (⟨H7.size, 0, none⟩ : Addr) 4 ∧ (
  letH (wrs H8 (⟨H7.size, 0, none⟩ : Addr) [.int .i64 x7, .int .i64 x8, .int .u64 x9, .int .u64 x10]) (fun H9 : Heap =>
  iteB (x5 == (0 : Int)) (
  letH (H9.push (.cells #[.int .u64 (4096 : Int), .int .u64 (8192 : Int)] t_uint64 (0, 0))) (fun H10 : Heap =>
  CallsH Tryz.prog n_help_Equal_uint64 #[.slice x.p x.n x.c, .slice (some (⟨H9.size, 0, none⟩ : Addr)) 2 2] H10 (fun v2 H11 =>
  ∃ x12 : Bool, v2 = .bool x12 ∧ (
  iteB x12 (
  iteB (x11 == (19 : Int)) (
  ∃ x13 : Int, rd H11 (⟨H7.size, 0, none⟩ : Addr) = some (.int .i64 x13) ∧ ∃ x14 : Int, rd H11 ((⟨H7.size, 0, none⟩ : Addr).add 1) = some (.int .i64 x14) ∧ ∃ x15 : Int, rd H11 ((⟨H7.size, 0, none⟩ : Addr).add 2) = some (.int .u64 x15) ∧ ∃ x16 : Int, rd H11 ((⟨H7.size, 0, none⟩ : Addr).add 3) = some (.int .u64 x16) ∧ (
  iteB ((x13 == (0 : Int)) && ((x14 == (13 : Int)) && ((x15 == (16384 : Int)) && ((x16 == (1 : Int)) && true)))) (
  letH (H11.push (.cells #[.int .i64 (13 : Int), .int .i64 (13 : Int)] t_int (0, 0))) (fun H12 : Heap =>
  ∃ x17 : Int, rd H12 (⟨H7.size, 0, none⟩ : Addr) = some (.int .i64 x17) ∧ ∃ x18 : Int, rd H12 ((⟨H7.size, 0, none⟩ : Addr).add 1) = some (.int .i64 x18) ∧ ∃ x19 : Int, rd H12 ((⟨H7.size, 0, none⟩ : Addr).add 2) = some (.int .u64 x19) ∧ ∃ x20 : Int, rd H12 ((⟨H7.size, 0, none⟩ : Addr).add 3) = some (.int .u64 x20) ∧ (
  CallsH Tryz.prog n_allocate_Refutes #[.slice (some (⟨H.size, 0, none⟩ : Addr)) 1 1, .slice (some (⟨H11.size, 0, none⟩ : Addr)) 2 2, .agg #[.int .i64 x17, .int .i64 x18, .int .u64 x19, .int .u64 x20]] H12 (fun v3 H13 =>
  ∃ x21 : Bool, v3 = .bool x21 ∧ (
  R (.bool x21) H13))))) (
  R (.bool false) H11))) (
  R (.bool false) H11)) (
  R (.bool false) H11))))) (
  R (.bool false) H9))))))))))))))

theorem F_law21_awake_eq (R : Value → Heap → Prop)  (H : Heap) : wpF Tryz.prog Tryz.f12 [] [] [] [20] [] H R = F_law21_awake R  H := by kernel_rfl

theorem F_law21_awake_ok {R : Value → Heap → Prop}  {H : Heap} (h : F_law21_awake R  H) : CallsH Tryz.prog n_law21_awake #[] H R :=
  wpF_ok Tryz.func12 (F_law21_awake_eq R  H) h

/-! ### 13: platformfw/allocate.Writes -/

def F_allocate_Writes_k1 (H5 : Heap) (I_1 : Sl → Int → Int → Heap → Prop) (M_1 : Sl → Int → Int → Heap → Nat) (ops1 : Sl) (command : Int) (x15 : Int) (H8 : Heap) (command3 : Int) (H11 : Heap) : Prop :=
  ∃ x23 : Int, rd H11 ((⟨H8.size, 0, none⟩ : Addr).add 1) = some (.int .i64 x23) ∧ (
  iteB (decide (x23 ≥ (0 : Int))) (
  ∃ x24 : Int, rd H11 (⟨H5.size, 0, none⟩ : Addr) = some (.int .i64 x24) ∧ ∃ x25 : Int, rd H11 ((⟨H5.size, 0, none⟩ : Addr).add 1) = some (.int .i64 x25) ∧ ∃ x26 : Int, rd H11 ((⟨H5.size, 0, none⟩ : Addr).add 2) = some (.int .i64 x26) ∧ ∃ x27 : Int, rd H11 ((⟨H5.size, 0, none⟩ : Addr).add 3) = some (.int .i64 x27) ∧ ∃ x28 : Bool, rd H11 ((⟨H5.size, 0, none⟩ : Addr).add 4) = some (.bool x28) ∧ ∃ x29 : Bool, rd H11 ((⟨H5.size, 0, none⟩ : Addr).add 5) = some (.bool x29) ∧ ∃ x30 : Bool, rd H11 ((⟨H5.size, 0, none⟩ : Addr).add 6) = some (.bool x30) ∧ ∃ x31 : Int, rd H11 ((⟨H5.size, 0, none⟩ : Addr).add 7) = some (.int .i64 x31) ∧ ∃ x32 : Int, rd H11 ((⟨H5.size, 0, none⟩ : Addr).add 8) = some (.int .i64 x32) ∧ ∃ x33 : Int, rd H11 ((⟨H5.size, 0, none⟩ : Addr).add 9) = some (.int .i64 x33) ∧ ∃ x34 : Sl, rd H11 ((⟨H5.size, 0, none⟩ : Addr).add 10) = some (.slice x34.p x34.n x34.c) ∧ (
  ∃ x35 : Int, rd H11 (⟨H8.size, 0, none⟩ : Addr) = some (.int .i64 x35) ∧ ∃ x36 : Int, rd H11 ((⟨H8.size, 0, none⟩ : Addr).add 1) = some (.int .i64 x36) ∧ ∃ x37 : Int, rd H11 ((⟨H8.size, 0, none⟩ : Addr).add 2) = some (.int .i64 x37) ∧ ∃ x38 : Int, rd H11 ((⟨H8.size, 0, none⟩ : Addr).add 3) = some (.int .i64 x38) ∧ ∃ x39 : Int, rd H11 ((⟨H8.size, 0, none⟩ : Addr).add 4) = some (.int .u64 x39) ∧ (
  CallsH Tryz.prog n_allocate_barWrites #[.slice ops1.p ops1.n ops1.c, .agg #[.int .i64 x24, .int .i64 x25, .int .i64 x26, .int .i64 x27, .bool x28, .bool x29, .bool x30, .int .i64 x31, .int .i64 x32, .int .i64 x33, .slice x34.p x34.n x34.c], .agg #[.int .i64 x35, .int .i64 x36, .int .i64 x37, .int .i64 x38, .int .u64 x39]] H11 (fun v3 H12 =>
  ∃ ops2 : Sl, v3 = .slice ops2.p ops2.n ops2.c ∧ (
  I_1 ops2 command3 (IntKind.i64.wrap (x15 + (1 : Int))) H12 ∧ M_1 ops2 command3 (IntKind.i64.wrap (x15 + (1 : Int))) H12 < M_1 ops1 command x15 H8))))) (
  I_1 ops1 command3 (IntKind.i64.wrap (x15 + (1 : Int))) H11 ∧ M_1 ops1 command3 (IntKind.i64.wrap (x15 + (1 : Int))) H11 < M_1 ops1 command x15 H8))

def F_allocate_Writes_k2 (I_ : Sl → Int → Heap → Prop) (M_ : Sl → Int → Heap → Nat) (ops : Sl) (x3 : Int) (H5 : Heap) (ops4 : Sl) (command5 : Int) (H14 : Heap) : Prop :=
  CallsH Tryz.prog n_allocate_write #[.int .i64 x3, .int .i64 (4 : Int), .int .i64 (2 : Int), .int .u64 command5] H14 (fun v5 H15 =>
  ∃ x52 : Int, ∃ x53 : Int, ∃ x54 : Int, ∃ x55 : Bool, ∃ x56 : Int, v5 = .agg #[.int .i64 x52, .int .i64 x53, .int .i64 x54, .bool x55, .int .u64 x56] ∧ (
  letH (H15.push (.cells #[.int .i64 x52, .int .i64 x53, .int .i64 x54, .bool x55, .int .u64 x56] t_api_ConfigOp (0, 0))) (fun H16 : Heap =>
  runH Tryz.prog (Builtin.append_ #[t_sl_api_ConfigOp, t_sl_api_ConfigOp] t_sl_api_ConfigOp #[.slice ops4.p ops4.n ops4.c, .slice (some (⟨H15.size, 0, none⟩ : Addr)) 1 1]) H16 (fun v6 H17 =>
  ∃ ops5 : Sl, v6 = .slice ops5.p ops5.n ops5.c ∧ (
  I_ ops5 (IntKind.i64.wrap (x3 + (1 : Int))) H17 ∧ M_ ops5 (IntKind.i64.wrap (x3 + (1 : Int))) H17 < M_ ops x3 H5)))))

def F_allocate_Writes_r3 (a : Sl) (I_ : Sl → Int → Heap → Prop) (M_ : Sl → Int → Heap → Nat) (ops : Sl) (x3 : Int) (H5 : Heap) (I_1 : Sl → Int → Int → Heap → Prop) (M_1 : Sl → Int → Int → Heap → Nat) (ops1 : Sl) (command : Int) (x15 : Int) (H8 : Heap) : Prop :=
  iteB (decide (x15 < (a.n : Int))) (
  0 ≤ x15 ∧ x15 < (a.n : Int) ∧ (unSome a.p (fun a2 =>
  ∃ x16 : Int, rd H8 (a2.add (x15.toNat * 5)) = some (.int .i64 x16) ∧ ∃ x17 : Int, rd H8 ((a2.add (x15.toNat * 5)).add 1) = some (.int .i64 x17) ∧ ∃ x18 : Int, rd H8 ((a2.add (x15.toNat * 5)).add 2) = some (.int .i64 x18) ∧ ∃ x19 : Int, rd H8 ((a2.add (x15.toNat * 5)).add 3) = some (.int .i64 x19) ∧ ∃ x20 : Int, rd H8 ((a2.add (x15.toNat * 5)).add 4) = some (.int .u64 x20) ∧ (
  letH (H8.push (.cells #[.int .i64 (0 : Int), .int .i64 (0 : Int), .int .i64 (0 : Int), .int .i64 (0 : Int), .int .u64 (0 : Int)] t_api_Assignment (0, 0))) (fun H9 : Heap =>
  okRow H9 (⟨H8.size, 0, none⟩ : Addr) 5 ∧ (
  letH (wrs H9 (⟨H8.size, 0, none⟩ : Addr) [.int .i64 x16, .int .i64 x17, .int .i64 x18, .int .i64 x19, .int .u64 x20]) (fun H10 : Heap =>
  ∃ x21 : Int, rd H10 (⟨H8.size, 0, none⟩ : Addr) = some (.int .i64 x21) ∧ (
  iteB (x21 != x3) (
  I_1 ops1 command (IntKind.i64.wrap (x15 + (1 : Int))) H10 ∧ M_1 ops1 command (IntKind.i64.wrap (x15 + (1 : Int))) H10 < M_1 ops1 command x15 H8) (
  ∃ J_1 : Int → Heap → Prop, (
  ∃ x22 : Int, rd H10 ((⟨H8.size, 0, none⟩ : Addr).add 2) = some (.int .i64 x22) ∧ (
  iteB (x22 == (0 : Int)) (
  letV (bitsOr .u64 command (1 : Int)) (fun command1 : Int =>
  J_1 command1 H10)) (
  letV (bitsOr .u64 command (2 : Int)) (fun command2 : Int =>
  J_1 command2 H10)))) ∧ (∀ command3 : Int, ∀ H11 : Heap, J_1 command3 H11 → F_allocate_Writes_k1 H5 I_1 M_1 ops1 command x15 H8 command3 H11)))))))))) (
  ∃ J_2 : Sl → Int → Heap → Prop, (
  ∃ x40 : Bool, rd H8 ((⟨H5.size, 0, none⟩ : Addr).add 4) = some (.bool x40) ∧ (
  iteB x40 (
  letV (bitsOr .u64 command (4 : Int)) (fun command4 : Int =>
  ∃ x41 : Int, rd H8 (⟨H5.size, 0, none⟩ : Addr) = some (.int .i64 x41) ∧ ∃ x42 : Int, rd H8 ((⟨H5.size, 0, none⟩ : Addr).add 1) = some (.int .i64 x42) ∧ ∃ x43 : Int, rd H8 ((⟨H5.size, 0, none⟩ : Addr).add 2) = some (.int .i64 x43) ∧ ∃ x44 : Int, rd H8 ((⟨H5.size, 0, none⟩ : Addr).add 3) = some (.int .i64 x44) ∧ ∃ x45 : Bool, rd H8 ((⟨H5.size, 0, none⟩ : Addr).add 4) = some (.bool x45) ∧ ∃ x46 : Bool, rd H8 ((⟨H5.size, 0, none⟩ : Addr).add 5) = some (.bool x46) ∧ ∃ x47 : Bool, rd H8 ((⟨H5.size, 0, none⟩ : Addr).add 6) = some (.bool x47) ∧ ∃ x48 : Int, rd H8 ((⟨H5.size, 0, none⟩ : Addr).add 7) = some (.int .i64 x48) ∧ ∃ x49 : Int, rd H8 ((⟨H5.size, 0, none⟩ : Addr).add 8) = some (.int .i64 x49) ∧ ∃ x50 : Int, rd H8 ((⟨H5.size, 0, none⟩ : Addr).add 9) = some (.int .i64 x50) ∧ ∃ x51 : Sl, rd H8 ((⟨H5.size, 0, none⟩ : Addr).add 10) = some (.slice x51.p x51.n x51.c) ∧ (
  CallsH Tryz.prog n_allocate_bridgeWrites #[.slice ops1.p ops1.n ops1.c, .int .i64 x3, .agg #[.int .i64 x41, .int .i64 x42, .int .i64 x43, .int .i64 x44, .bool x45, .bool x46, .bool x47, .int .i64 x48, .int .i64 x49, .int .i64 x50, .slice x51.p x51.n x51.c], .slice a.p a.n a.c] H8 (fun v4 H13 =>
  ∃ ops3 : Sl, v4 = .slice ops3.p ops3.n ops3.c ∧ (
  J_2 ops3 command4 H13))))) (
  J_2 ops1 command H8))) ∧ (∀ ops4 : Sl, ∀ command5 : Int, ∀ H14 : Heap, J_2 ops4 command5 H14 → F_allocate_Writes_k2 I_ M_ ops x3 H5 ops4 command5 H14))

def F_allocate_Writes_r4 (R : Value → Heap → Prop) (l : Sl) (a : Sl) (I_ : Sl → Int → Heap → Prop) (M_ : Sl → Int → Heap → Nat) (ops : Sl) (x3 : Int) (H5 : Heap) : Prop :=
  iteB (decide (x3 < (l.n : Int))) (
  0 ≤ x3 ∧ x3 < (l.n : Int) ∧ (unSome l.p (fun a1 =>
  ∃ x4 : Int, rd H5 (a1.add (x3.toNat * 11)) = some (.int .i64 x4) ∧ ∃ x5 : Int, rd H5 ((a1.add (x3.toNat * 11)).add 1) = some (.int .i64 x5) ∧ ∃ x6 : Int, rd H5 ((a1.add (x3.toNat * 11)).add 2) = some (.int .i64 x6) ∧ ∃ x7 : Int, rd H5 ((a1.add (x3.toNat * 11)).add 3) = some (.int .i64 x7) ∧ ∃ x8 : Bool, rd H5 ((a1.add (x3.toNat * 11)).add 4) = some (.bool x8) ∧ ∃ x9 : Bool, rd H5 ((a1.add (x3.toNat * 11)).add 5) = some (.bool x9) ∧ ∃ x10 : Bool, rd H5 ((a1.add (x3.toNat * 11)).add 6) = some (.bool x10) ∧ ∃ x11 : Int, rd H5 ((a1.add (x3.toNat * 11)).add 7) = some (.int .i64 x11) ∧ ∃ x12 : Int, rd H5 ((a1.add (x3.toNat * 11)).add 8) = some (.int .i64 x12) ∧ ∃ x13 : Int, rd H5 ((a1.add (x3.toNat * 11)).add 9) = some (.int .i64 x13) ∧ ∃ x14 : Sl, rd H5 ((a1.add (x3.toNat * 11)).add 10) = some (.slice x14.p x14.n x14.c) ∧ (
  letH (H5.push (.cells #[.int .i64 (0 : Int), .int .i64 (0 : Int), .int .i64 (0 : Int), .int .i64 (0 : Int), .bool false, .bool false, .bool false, .int .i64 (0 : Int), .int .i64 (0 : Int), .int .i64 (0 : Int), .slice none 0 0] t_api_Function (0, 0))) (fun H6 : Heap =>
  okRow H6 (⟨H5.size, 0, none⟩ : Addr) 11 ∧ (
  letH (wrs H6 (⟨H5.size, 0, none⟩ : Addr) [.int .i64 x4, .int .i64 x5, .int .i64 x6, .int .i64 x7, .bool x8, .bool x9, .bool x10, .int .i64 x11, .int .i64 x12, .int .i64 x13, .slice x14.p x14.n x14.c]) (fun H7 : Heap =>
  ∃ I_1 : Sl → Int → Int → Heap → Prop, ∃ M_1 : Sl → Int → Int → Heap → Nat, I_1 ops (0 : Int) (0 : Int) H7 ∧ (∀ ops1 : Sl, ∀ command : Int, ∀ x15 : Int, ∀ H8 : Heap, I_1 ops1 command x15 H8 → F_allocate_Writes_r3 a I_ M_ ops x3 H5 I_1 M_1 ops1 command x15 H8)))))))) (
  R (.slice ops.p ops.n ops.c) H5)

def F_allocate_Writes_k5 (R : Value → Heap → Prop) (l : Sl) (a : Sl) (H4 : Heap) : Prop :=
  ∃ I_ : Sl → Int → Heap → Prop, ∃ M_ : Sl → Int → Heap → Nat, I_ (Sl.mk none 0 0) (0 : Int) H4 ∧ (∀ ops : Sl, ∀ x3 : Int, ∀ H5 : Heap, I_ ops x3 H5 → F_allocate_Writes_r4 R l a I_ M_ ops x3 H5)

def F_allocate_Writes (R : Value → Heap → Prop) (l : Sl) (a : Sl) (H : Heap) : Prop :=
  ∃ J_ : Heap → Prop, (
  CallsH Tryz.prog n_enumerate_Valid #[.slice l.p l.n l.c] H (fun v H1 =>
  ∃ x : Bool, v = .bool x ∧ (
  iteB (!x) (
  R (.slice none 0 0) H1) (
  CallsH Tryz.prog n_allocate_covers #[.slice l.p l.n l.c, .bool true, .slice a.p a.n a.c] H1 (fun v1 H2 =>
  ∃ x1 : Bool, v1 = .bool x1 ∧ (
  iteB (!x1) (
  CallsH Tryz.prog n_allocate_covers #[.slice l.p l.n l.c, .bool false, .slice a.p a.n a.c] H2 (fun v2 H3 =>
  ∃ x2 : Bool, v2 = .bool x2 ∧ (
  iteB (!x2) (
  R (.slice none 0 0) H3) (
  J_ H3)))) (
  J_ H2))))))) ∧ (∀ H4 : Heap, J_ H4 → F_allocate_Writes_k5 R l a H4)

theorem F_allocate_Writes_eq (R : Value → Heap → Prop) (l : Sl) (a : Sl) (H : Heap) : wpF Tryz.prog Tryz.f13 [(5, .slice none 0 0), (8, .int .u64 0), (28, .int .i64 0), (35, .int .i64 0)] [(3, [], [0, 1]), (15, [8], [1, 5, 6, 7, 10, 26, 27, 28, 33, 34, 35]), (21, [5, 8], [1, 6, 26, 27, 28])] [(5, [5, 28], [1, 26, 27]), (9, [5, 8, 35], [1, 6, 7, 26, 27, 28, 33, 34])] [20] [.slice l.p l.n l.c, .slice a.p a.n a.c] H R = F_allocate_Writes R l a H := by kernel_rfl

theorem F_allocate_Writes_ok {R : Value → Heap → Prop} (l : Sl) (a : Sl) {H : Heap} (h : F_allocate_Writes R l a H) : CallsH Tryz.prog n_allocate_Writes #[.slice l.p l.n l.c, .slice a.p a.n a.c] H R :=
  wpF_ok Tryz.func13 (F_allocate_Writes_eq R l a H) h

/-! ### 14: platformfw/platformfwhelp.Equal[platformfw/api.ConfigOp] -/

def F_help_Equal_api_ConfigOp_r1 (R : Value → Heap → Prop) (a : Sl) (b : Sl) (I_ : Int → Heap → Prop) (M_ : Int → Heap → Nat) (i : Int) (H1 : Heap) : Prop :=
  iteB (decide (i < (a.n : Int))) (
  0 ≤ i ∧ i < (a.n : Int) ∧ (unSome a.p (fun a1 =>
  ∃ x : Int, rd H1 (a1.add (i.toNat * 5)) = some (.int .i64 x) ∧ ∃ x1 : Int, rd H1 ((a1.add (i.toNat * 5)).add 1) = some (.int .i64 x1) ∧ ∃ x2 : Int, rd H1 ((a1.add (i.toNat * 5)).add 2) = some (.int .i64 x2) ∧ ∃ x3 : Bool, rd H1 ((a1.add (i.toNat * 5)).add 3) = some (.bool x3) ∧ ∃ x4 : Int, rd H1 ((a1.add (i.toNat * 5)).add 4) = some (.int .u64 x4) ∧ (
  0 ≤ i ∧ i < (b.n : Int) ∧ (unSome b.p (fun a2 =>
  ∃ x5 : Int, rd H1 (a2.add (i.toNat * 5)) = some (.int .i64 x5) ∧ ∃ x6 : Int, rd H1 ((a2.add (i.toNat * 5)).add 1) = some (.int .i64 x6) ∧ ∃ x7 : Int, rd H1 ((a2.add (i.toNat * 5)).add 2) = some (.int .i64 x7) ∧ ∃ x8 : Bool, rd H1 ((a2.add (i.toNat * 5)).add 3) = some (.bool x8) ∧ ∃ x9 : Int, rd H1 ((a2.add (i.toNat * 5)).add 4) = some (.int .u64 x9) ∧ (
  iteB (!((x == x5) && ((x1 == x6) && ((x2 == x7) && ((x3 == x8) && ((x4 == x9) && true)))))) (
  R (.bool false) H1) (
  letV (IntKind.i64.wrap (i + (1 : Int))) (fun i1 : Int =>
  I_ i1 H1 ∧ M_ i1 H1 < M_ i H1))))))))) (
  R (.bool true) H1)

def F_help_Equal_api_ConfigOp (R : Value → Heap → Prop) (a : Sl) (b : Sl) (H : Heap) : Prop :=
  iteB ((a.n : Int) != (b.n : Int)) (
  R (.bool false) H) (
  ∃ I_ : Int → Heap → Prop, ∃ M_ : Int → Heap → Nat, I_ (0 : Int) H ∧ (∀ i : Int, ∀ H1 : Heap, I_ i H1 → F_help_Equal_api_ConfigOp_r1 R a b I_ M_ i H1))

theorem F_help_Equal_api_ConfigOp_eq (R : Value → Heap → Prop) (a : Sl) (b : Sl) (H : Heap) : wpF Tryz.prog Tryz.f14 [(5, .int .i64 0)] [] [(4, [5], [0, 1])] [20] [.slice a.p a.n a.c, .slice b.p b.n b.c] H R = F_help_Equal_api_ConfigOp R a b H := by kernel_rfl

theorem F_help_Equal_api_ConfigOp_ok {R : Value → Heap → Prop} (a : Sl) (b : Sl) {H : Heap} (h : F_help_Equal_api_ConfigOp R a b H) : CallsH Tryz.prog n_help_Equal_api_ConfigOp #[.slice a.p a.n a.c, .slice b.p b.n b.c] H R :=
  wpF_ok Tryz.func14 (F_help_Equal_api_ConfigOp_eq R a b H) h

/-! ### 15: platformfw/platformfwref21.Writes -/

def F_ref21_Writes_k1 (i : Int) (I_1 : Sl → Int → Int → Heap → Prop) (M_1 : Sl → Int → Int → Heap → Nat) (out1 : Sl) (command : Int) (k : Int) (H4 : Heap) (command3 : Int) (out2 : Sl) (x19 : Bool) (H11 : Heap) : Prop :=
  iteB x19 (
  ∃ x20 : Int, rd H11 ((⟨H4.size, 0, none⟩ : Addr).add 1) = some (.int .i64 x20) ∧ (
  ∃ x21 : Int, rd H11 ((⟨H4.size, 0, none⟩ : Addr).add 4) = some (.int .u64 x21) ∧ (
  0 ≤ (32 : Int) ∧ (
  CallsH Tryz.prog n_ref21_op #[.int .i64 i, .int .i64 (IntKind.i64.wrap ((20 : Int) + (IntKind.i64.wrap ((4 : Int) * x20)))), .int .i64 (4 : Int), .int .u64 (x21.fdiv (2 ^ (min (32 : Int).toNat IntKind.u64.bits)))] H11 (fun v4 H12 =>
  ∃ x22 : Int, ∃ x23 : Int, ∃ x24 : Int, ∃ x25 : Bool, ∃ x26 : Int, v4 = .agg #[.int .i64 x22, .int .i64 x23, .int .i64 x24, .bool x25, .int .u64 x26] ∧ (
  letH (H12.push (.cells #[.int .i64 x22, .int .i64 x23, .int .i64 x24, .bool x25, .int .u64 x26] t_api_ConfigOp (0, 0))) (fun H13 : Heap =>
  runH Tryz.prog (Builtin.append_ #[t_sl_api_ConfigOp, t_sl_api_ConfigOp] t_sl_api_ConfigOp #[.slice out2.p out2.n out2.c, .slice (some (⟨H12.size, 0, none⟩ : Addr)) 1 1]) H13 (fun v5 H14 =>
  ∃ out3 : Sl, v5 = .slice out3.p out3.n out3.c ∧ (
  letV (IntKind.i64.wrap (k + (1 : Int))) (fun k2 : Int =>
  I_1 out3 command3 k2 H14 ∧ M_1 out3 command3 k2 H14 < M_1 out1 command k H4)))))))))) (
  letV (IntKind.i64.wrap (k + (1 : Int))) (fun k3 : Int =>
  I_1 out2 command3 k3 H11 ∧ M_1 out2 command3 k3 H11 < M_1 out1 command k H4))

def F_ref21_Writes_k2 (l : Sl) (i : Int) (I_1 : Sl → Int → Int → Heap → Prop) (M_1 : Sl → Int → Int → Heap → Nat) (out1 : Sl) (command : Int) (k : Int) (H4 : Heap) (command3 : Int) (H7 : Heap) : Prop :=
  ∃ x9 : Int, rd H7 ((⟨H4.size, 0, none⟩ : Addr).add 1) = some (.int .i64 x9) ∧ (
  iteB (decide (x9 ≥ (0 : Int))) (
  ∃ x10 : Int, rd H7 ((⟨H4.size, 0, none⟩ : Addr).add 1) = some (.int .i64 x10) ∧ (
  ∃ x11 : Int, rd H7 ((⟨H4.size, 0, none⟩ : Addr).add 4) = some (.int .u64 x11) ∧ (
  CallsH Tryz.prog n_ref21_op #[.int .i64 i, .int .i64 (IntKind.i64.wrap ((16 : Int) + (IntKind.i64.wrap ((4 : Int) * x10)))), .int .i64 (4 : Int), .int .u64 (bitsAnd .u64 x11 (4294967295 : Int))] H7 (fun v2 H8 =>
  ∃ x12 : Int, ∃ x13 : Int, ∃ x14 : Int, ∃ x15 : Bool, ∃ x16 : Int, v2 = .agg #[.int .i64 x12, .int .i64 x13, .int .i64 x14, .bool x15, .int .u64 x16] ∧ (
  letH (H8.push (.cells #[.int .i64 x12, .int .i64 x13, .int .i64 x14, .bool x15, .int .u64 x16] t_api_ConfigOp (0, 0))) (fun H9 : Heap =>
  runH Tryz.prog (Builtin.append_ #[t_sl_api_ConfigOp, t_sl_api_ConfigOp] t_sl_api_ConfigOp #[.slice out1.p out1.n out1.c, .slice (some (⟨H8.size, 0, none⟩ : Addr)) 1 1]) H9 (fun v3 H10 =>
  ∃ out2 : Sl, v3 = .slice out2.p out2.n out2.c ∧ (
  0 ≤ i ∧ i < (l.n : Int) ∧ (unSome l.p (fun a2 =>
  ∃ x17 : Sl, rd H10 ((a2.add (i.toNat * 11)).add 10) = some (.slice x17.p x17.n x17.c) ∧ (
  ∃ x18 : Int, rd H10 ((⟨H4.size, 0, none⟩ : Addr).add 1) = some (.int .i64 x18) ∧ (
  0 ≤ x18 ∧ x18 < (x17.n : Int) ∧ (unSome x17.p (fun a3 =>
  ∃ kind : Int, rd H10 (a3.add (x18.toNat * 2)) = some (.int .i64 kind) ∧ (
  ∃ J_1 : Bool → Heap → Prop, (
  iteB (kind == (3 : Int)) (
  J_1 true H10) (
  J_1 (kind == (4 : Int)) H10)) ∧ (∀ x19 : Bool, ∀ H11 : Heap, J_1 x19 H11 → F_ref21_Writes_k1 i I_1 M_1 out1 command k H4 command3 out2 x19 H11)))))))))))))))) (
  letV (IntKind.i64.wrap (k + (1 : Int))) (fun k4 : Int =>
  I_1 out1 command3 k4 H7 ∧ M_1 out1 command3 k4 H7 < M_1 out1 command k H4)))

def F_ref21_Writes_k3 (I_ : Sl → Int → Heap → Prop) (M_ : Sl → Int → Heap → Nat) (out : Sl) (i : Int) (H3 : Heap) (out5 : Sl) (command5 : Int) (H17 : Heap) : Prop :=
  CallsH Tryz.prog n_ref21_op #[.int .i64 i, .int .i64 (4 : Int), .int .i64 (2 : Int), .int .u64 command5] H17 (fun v8 H18 =>
  ∃ x29 : Int, ∃ x30 : Int, ∃ x31 : Int, ∃ x32 : Bool, ∃ x33 : Int, v8 = .agg #[.int .i64 x29, .int .i64 x30, .int .i64 x31, .bool x32, .int .u64 x33] ∧ (
  letH (H18.push (.cells #[.int .i64 x29, .int .i64 x30, .int .i64 x31, .bool x32, .int .u64 x33] t_api_ConfigOp (0, 0))) (fun H19 : Heap =>
  runH Tryz.prog (Builtin.append_ #[t_sl_api_ConfigOp, t_sl_api_ConfigOp] t_sl_api_ConfigOp #[.slice out5.p out5.n out5.c, .slice (some (⟨H18.size, 0, none⟩ : Addr)) 1 1]) H19 (fun v9 H20 =>
  ∃ out6 : Sl, v9 = .slice out6.p out6.n out6.c ∧ (
  letV (IntKind.i64.wrap (i + (1 : Int))) (fun i1 : Int =>
  I_ out6 i1 H20 ∧ M_ out6 i1 H20 < M_ out i H3))))))

def F_ref21_Writes_r4 (l : Sl) (a : Sl) (I_ : Sl → Int → Heap → Prop) (M_ : Sl → Int → Heap → Nat) (out : Sl) (i : Int) (H3 : Heap) (I_1 : Sl → Int → Int → Heap → Prop) (M_1 : Sl → Int → Int → Heap → Nat) (out1 : Sl) (command : Int) (k : Int) (H4 : Heap) : Prop :=
  iteB (decide (k < (a.n : Int))) (
  0 ≤ k ∧ k < (a.n : Int) ∧ (unSome a.p (fun a1 =>
  ∃ x2 : Int, rd H4 (a1.add (k.toNat * 5)) = some (.int .i64 x2) ∧ ∃ x3 : Int, rd H4 ((a1.add (k.toNat * 5)).add 1) = some (.int .i64 x3) ∧ ∃ x4 : Int, rd H4 ((a1.add (k.toNat * 5)).add 2) = some (.int .i64 x4) ∧ ∃ x5 : Int, rd H4 ((a1.add (k.toNat * 5)).add 3) = some (.int .i64 x5) ∧ ∃ x6 : Int, rd H4 ((a1.add (k.toNat * 5)).add 4) = some (.int .u64 x6) ∧ (
  letH (H4.push (.cells #[.int .i64 (0 : Int), .int .i64 (0 : Int), .int .i64 (0 : Int), .int .i64 (0 : Int), .int .u64 (0 : Int)] t_api_Assignment (0, 0))) (fun H5 : Heap =>
  okRow H5 (⟨H4.size, 0, none⟩ : Addr) 5 ∧ (
  letH (wrs H5 (⟨H4.size, 0, none⟩ : Addr) [.int .i64 x2, .int .i64 x3, .int .i64 x4, .int .i64 x5, .int .u64 x6]) (fun H6 : Heap =>
  ∃ x7 : Int, rd H6 (⟨H4.size, 0, none⟩ : Addr) = some (.int .i64 x7) ∧ (
  iteB (x7 != i) (
  letV (IntKind.i64.wrap (k + (1 : Int))) (fun k1 : Int =>
  I_1 out1 command k1 H6 ∧ M_1 out1 command k1 H6 < M_1 out1 command k H4)) (
  ∃ J_ : Int → Heap → Prop, (
  ∃ x8 : Int, rd H6 ((⟨H4.size, 0, none⟩ : Addr).add 2) = some (.int .i64 x8) ∧ (
  iteB (x8 == (0 : Int)) (
  letV (bitsOr .u64 command (1 : Int)) (fun command1 : Int =>
  J_ command1 H6)) (
  letV (bitsOr .u64 command (2 : Int)) (fun command2 : Int =>
  J_ command2 H6)))) ∧ (∀ command3 : Int, ∀ H7 : Heap, J_ command3 H7 → F_ref21_Writes_k2 l i I_1 M_1 out1 command k H4 command3 H7)))))))))) (
  ∃ J_2 : Sl → Int → Heap → Prop, (
  0 ≤ i ∧ i < (l.n : Int) ∧ (unSome l.p (fun a4 =>
  ∃ x27 : Bool, rd H4 ((a4.add (i.toNat * 11)).add 4) = some (.bool x27) ∧ (
  iteB x27 (
  CallsH Tryz.prog n_ref21_windows #[.slice l.p l.n l.c, .slice a.p a.n a.c, .int .i64 i] H4 (fun v6 H15 =>
  ∃ x28 : Sl, v6 = .slice x28.p x28.n x28.c ∧ (
  runH Tryz.prog (Builtin.append_ #[t_sl_api_ConfigOp, t_sl_api_ConfigOp] t_sl_api_ConfigOp #[.slice out1.p out1.n out1.c, .slice x28.p x28.n x28.c]) H15 (fun v7 H16 =>
  ∃ out4 : Sl, v7 = .slice out4.p out4.n out4.c ∧ (
  letV (bitsOr .u64 command (4 : Int)) (fun command4 : Int =>
  J_2 out4 command4 H16)))))) (
  J_2 out1 command H4))))) ∧ (∀ out5 : Sl, ∀ command5 : Int, ∀ H17 : Heap, J_2 out5 command5 H17 → F_ref21_Writes_k3 I_ M_ out i H3 out5 command5 H17))

def F_ref21_Writes_r5 (R : Value → Heap → Prop) (l : Sl) (a : Sl) (I_ : Sl → Int → Heap → Prop) (M_ : Sl → Int → Heap → Nat) (out : Sl) (i : Int) (H3 : Heap) : Prop :=
  iteB (decide (i < (l.n : Int))) (
  ∃ I_1 : Sl → Int → Int → Heap → Prop, ∃ M_1 : Sl → Int → Int → Heap → Nat, I_1 out (0 : Int) (0 : Int) H3 ∧ (∀ out1 : Sl, ∀ command : Int, ∀ k : Int, ∀ H4 : Heap, I_1 out1 command k H4 → F_ref21_Writes_r4 l a I_ M_ out i H3 I_1 M_1 out1 command k H4)) (
  R (.slice out.p out.n out.c) H3)

def F_ref21_Writes (R : Value → Heap → Prop) (l : Sl) (a : Sl) (H : Heap) : Prop :=
  CallsH Tryz.prog n_ref18_Valid #[.slice l.p l.n l.c] H (fun v H1 =>
  ∃ x : Bool, v = .bool x ∧ (
  iteB (!x) (
  R (.slice none 0 0) H1) (
  CallsH Tryz.prog n_ref21_needed #[.slice l.p l.n l.c, .slice a.p a.n a.c] H1 (fun v1 H2 =>
  ∃ x1 : Bool, v1 = .bool x1 ∧ (
  iteB (!x1) (
  R (.slice none 0 0) H2) (
  ∃ I_ : Sl → Int → Heap → Prop, ∃ M_ : Sl → Int → Heap → Nat, I_ (Sl.mk none 0 0) (0 : Int) H2 ∧ (∀ out : Sl, ∀ i : Int, ∀ H3 : Heap, I_ out i H3 → F_ref21_Writes_r5 R l a I_ M_ out i H3)))))))

theorem F_ref21_Writes_eq (R : Value → Heap → Prop) (l : Sl) (a : Sl) (H : Heap) : wpF Tryz.prog Tryz.f15 [(5, .slice none 0 0), (6, .int .i64 0), (7, .int .u64 0), (8, .int .i64 0), (82, .bool false)] [(16, [7], [0, 1, 5, 6, 8, 9]), (20, [82], [0, 1, 5, 6, 7, 8, 9]), (24, [5, 7], [0, 1, 6])] [(5, [5, 6], [0, 1]), (9, [5, 7, 8], [0, 1, 6])] [20] [.slice l.p l.n l.c, .slice a.p a.n a.c] H R = F_ref21_Writes R l a H := by kernel_rfl

theorem F_ref21_Writes_ok {R : Value → Heap → Prop} (l : Sl) (a : Sl) {H : Heap} (h : F_ref21_Writes R l a H) : CallsH Tryz.prog n_ref21_Writes #[.slice l.p l.n l.c, .slice a.p a.n a.c] H R :=
  wpF_ok Tryz.func15 (F_ref21_Writes_eq R l a H) h

/-! ### 16: platformfw/pciconf.New -/

def F_pciconf_New_r1 (R : Value → Heap → Prop) (H : Heap) (H4 : Heap) (x22 : Sl) (I_ : Int → Heap → Prop) (M_ : Int → Heap → Nat) (x23 : Int) (H12 : Heap) : Prop :=
  iteB (decide (x23 < (x22.n : Int))) (
  0 ≤ x23 ∧ x23 < (x22.n : Int) ∧ (unSome x22.p (fun a =>
  ∃ x24 : Int, rd H12 (a.add (x23.toNat * 2)) = some (.int .i64 x24) ∧ ∃ x25 : Int, rd H12 ((a.add (x23.toNat * 2)).add 1) = some (.int .i64 x25) ∧ (
  letH (H12.push (.cells #[.int .i64 (0 : Int), .int .i64 (0 : Int)] t_api_Bar (0, 0))) (fun H13 : Heap =>
  okRow H13 (⟨H12.size, 0, none⟩ : Addr) 2 ∧ (
  letH (wrs H13 (⟨H12.size, 0, none⟩ : Addr) [.int .i64 x24, .int .i64 x25]) (fun H14 : Heap =>
  ∃ x26 : Int, rd H14 (⟨H12.size, 0, none⟩ : Addr) = some (.int .i64 x26) ∧ ∃ x27 : Int, rd H14 ((⟨H12.size, 0, none⟩ : Addr).add 1) = some (.int .i64 x27) ∧ (
  CallsH Tryz.prog n_pciconf_Device_defineBar #[.pointer (some (⟨H4.size, 0, none⟩ : Addr)), .int .i64 (IntKind.i64.wrap ((16 : Int) + (IntKind.i64.wrap ((4 : Int) * x23)))), .agg #[.int .i64 x26, .int .i64 x27]] H14 (fun v8 H15 =>
  v8 = .tuple #[] ∧ (
  I_ (IntKind.i64.wrap (x23 + (1 : Int))) H15 ∧ M_ (IntKind.i64.wrap (x23 + (1 : Int))) H15 < M_ x23 H12)))))))))) (
  ∃ x28 : Bool, rd H12 ((⟨H.size, 0, none⟩ : Addr).add 4) = some (.bool x28) ∧ (
  iteB x28 (
  CallsH Tryz.prog n_pciconf_Device_defineBridge #[.pointer (some (⟨H4.size, 0, none⟩ : Addr))] H12 (fun v9 H16 =>
  v9 = .tuple #[] ∧ (
  R (.tuple #[.pointer (some (⟨H4.size, 0, none⟩ : Addr)), .int .i64 (0 : Int)]) H16))) (
  R (.tuple #[.pointer (some (⟨H4.size, 0, none⟩ : Addr)), .int .i64 (0 : Int)]) H12)))

def F_pciconf_New (R : Value → Heap → Prop) (f_0 : Int) (f_1 : Int) (f_2 : Int) (f_3 : Int) (f_4 : Bool) (f_5 : Bool) (f_6 : Bool) (f_7 : Int) (f_8 : Int) (f_9 : Int) (f_10 : Sl) (H : Heap) : Prop :=
  letH (H.push (.cells #[.int .i64 f_0, .int .i64 f_1, .int .i64 f_2, .int .i64 f_3, .bool f_4, .bool f_5, .bool f_6, .int .i64 f_7, .int .i64 f_8, .int .i64 f_9, .slice f_10.p f_10.n f_10.c] t_api_Function (0, 0))) (fun H1 : Heap =>
  ∃ x : Int, rd H1 (⟨H.size, 0, none⟩ : Addr) = some (.int .i64 x) ∧ ∃ x1 : Int, rd H1 ((⟨H.size, 0, none⟩ : Addr).add 1) = some (.int .i64 x1) ∧ ∃ x2 : Int, rd H1 ((⟨H.size, 0, none⟩ : Addr).add 2) = some (.int .i64 x2) ∧ ∃ x3 : Int, rd H1 ((⟨H.size, 0, none⟩ : Addr).add 3) = some (.int .i64 x3) ∧ ∃ x4 : Bool, rd H1 ((⟨H.size, 0, none⟩ : Addr).add 4) = some (.bool x4) ∧ ∃ x5 : Bool, rd H1 ((⟨H.size, 0, none⟩ : Addr).add 5) = some (.bool x5) ∧ ∃ x6 : Bool, rd H1 ((⟨H.size, 0, none⟩ : Addr).add 6) = some (.bool x6) ∧ ∃ x7 : Int, rd H1 ((⟨H.size, 0, none⟩ : Addr).add 7) = some (.int .i64 x7) ∧ ∃ x8 : Int, rd H1 ((⟨H.size, 0, none⟩ : Addr).add 8) = some (.int .i64 x8) ∧ ∃ x9 : Int, rd H1 ((⟨H.size, 0, none⟩ : Addr).add 9) = some (.int .i64 x9) ∧ ∃ x10 : Sl, rd H1 ((⟨H.size, 0, none⟩ : Addr).add 10) = some (.slice x10.p x10.n x10.c) ∧ (
  CallsH Tryz.prog n_pciconf_Valid #[.agg #[.int .i64 x, .int .i64 x1, .int .i64 x2, .int .i64 x3, .bool x4, .bool x5, .bool x6, .int .i64 x7, .int .i64 x8, .int .i64 x9, .slice x10.p x10.n x10.c]] H1 (fun v H2 =>
  ∃ x11 : Bool, v = .bool x11 ∧ (
  iteB (!x11) (
  R (.tuple #[.pointer none, .int .i64 (1 : Int)]) H2) (
  ∃ x12 : Bool, rd H2 ((⟨H.size, 0, none⟩ : Addr).add 4) = some (.bool x12) ∧ (
  ∃ x13 : Bool, rd H2 ((⟨H.size, 0, none⟩ : Addr).add 4) = some (.bool x13) ∧ (
  ∃ x14 : Bool, rd H2 ((⟨H.size, 0, none⟩ : Addr).add 5) = some (.bool x14) ∧ (
  CallsH Tryz.prog n_pciconf_registers #[.bool x12] H2 (fun v1 H3 =>
  ∃ x15 : Int, v1 = .int .i64 x15 ∧ (
  Keeps H2 H3 [(((⟨H.size, 0, none⟩ : Addr).add 4), 1), (((⟨H.size, 0, none⟩ : Addr).add 5), 1)] ∧ (
  0 ≤ x15 ∧ x15 ≤ x15 ∧ x15 * ((16 : Nat) : Int) ≤ 281474976710656 ∧ (
  letH (H3.push (.cells (zeroRow (.agg #[.int .i64 (0 : Int), .int .i64 (0 : Int)]) x15.toNat) t_api_Bar (0, 0))) (fun H4 : Heap =>
  Keeps H3 H4 [(((⟨H.size, 0, none⟩ : Addr).add 4), 1), (((⟨H.size, 0, none⟩ : Addr).add 5), 1)] ∧ (
  letH (H4.push (.cells #[.int .u8 (0 : Int), .int .u8 (0 : Int), .int .u8 (0 : Int), .int .u8 (0 : Int), .int .u8 (0 : Int), .int .u8 (0 : Int), .int .u8 (0 : Int), .int .u8 (0 : Int), .int .u8 (0 : Int), .int .u8 (0 : Int), .int .u8 (0 : Int), .int .u8 (0 : Int), .int .u8 (0 : Int), .int .u8 (0 : Int), .int .u8 (0 : Int), .int .u8 (0 : Int), .int .u8 (0 : Int), .int .u8 (0 : Int), .int .u8 (0 : Int), .int .u8 (0 : Int), .int .u8 (0 : Int), .int .u8 (0 : Int), .int .u8 (0 : Int), .int .u8 (0 : Int), .int .u8 (0 : Int), .int .u8 (0 : Int), .int .u8 (0 : Int), .int .u8 (0 : Int), .int .u8 (0 : Int), .int .u8 (0 : Int), .int .u8 (0 : Int), .int .u8 (0 : Int), .int .u8 (0 : Int), .int .u8 (0 : Int), .int .u8 (0 : Int), .int .u8 (0 : Int), .int .u8 (0 : Int), .int .u8 (0 : Int), .int .u8 (0 : Int), .int .u8 (0 : Int), .int .u8 (0 : Int), .int .u8 (0 : Int), .int .u8 (0 : Int), .int .u8 (0 : Int), .int .u8 (0 : Int), .int .u8 (0 : Int), .int .u8 (0 : Int), .int .u8 (0 : Int), .int .u8 (0 : Int), .int .u8 (0 : Int), .int .u8 (0 : Int), .int .u8 (0 : Int), .int .u8 (0 : Int), .int .u8 (0 : Int), .int .u8 (0 : Int), .int .u8 (0 : Int), .int .u8 (0 : Int), .int .u8 (0 : Int), .int .u8 (0 : Int), .int .u8 (0 : Int), .int .u8 (0 : Int), .int .u8 (0 : Int), .int .u8 (0 : Int), .int .u8 (0 : Int), .int .u8 (0 : Int), .int .u8 (0 : Int), .int .u8 (0 : Int), .int .u8 (0 : Int), .int .u8 (0 : Int), .int .u8 (0 : Int), .int .u8 (0 : Int), .int .u8 (0 : Int), .int .u8 (0 : Int), .int .u8 (0 : Int), .int .u8 (0 : Int), .int .u8 (0 : Int), .int .u8 (0 : Int), .int .u8 (0 : Int), .int .u8 (0 : Int), .int .u8 (0 : Int), .int .u8 (0 : Int), .int .u8 (0 : Int), .int .u8 (0 : Int), .int .u8 (0 : Int), .int .u8 (0 : Int), .int .u8 (0 : Int), .int .u8 (0 : Int), .int .u8 (0 : Int), .int .u8 (0 : Int), .int .u8 (0 : Int), .int .u8 (0 : Int), .int .u8 (0 : Int), .int .u8 (0 : Int), .int .u8 (0 : Int), .int .u8 (0 : Int), .int .u8 (0 : Int), .int .u8 (0 : Int), .int .u8 (0 : Int), .int .u8 (0 : Int), .int .u8 (0 : Int), .int .u8 (0 : Int), .int .u8 (0 : Int), .int .u8 (0 : Int), .int .u8 (0 : Int), .int .u8 (0 : Int), .int .u8 (0 : Int), .int .u8 (0 : Int), .int .u8 (0 : Int), .int .u8 (0 : Int), .int .u8 (0 : Int), .int .u8 (0 : Int), .int .u8 (0 : Int), .int .u8 (0 : Int), .int .u8 (0 : Int), .int .u8 (0 : Int), .int .u8 (0 : Int), .int .u8 (0 : Int), .int .u8 (0 : Int), .int .u8 (0 : Int), .int .u8 (0 : Int), .int .u8 (0 : Int), .int .u8 (0 : Int), .int .u8 (0 : Int), .int .u8 (0 : Int), .int .u8 (0 : Int), .int .u8 (0 : Int), .int .u8 (0 : Int), .int .u8 (0 : Int), .int .u8 (0 : Int), .int .u8 (0 : Int), .int .u8 (0 : Int), .int .u8 (0 : Int), .int .u8 (0 : Int), .int .u8 (0 : Int), .int .u8 (0 : Int), .int .u8 (0 : Int), .int .u8 (0 : Int), .int .u8 (0 : Int), .int .u8 (0 : Int), .int .u8 (0 : Int), .int .u8 (0 : Int), .int .u8 (0 : Int), .int .u8 (0 : Int), .int .u8 (0 : Int), .int .u8 (0 : Int), .int .u8 (0 : Int), .int .u8 (0 : Int), .int .u8 (0 : Int), .int .u8 (0 : Int), .int .u8 (0 : Int), .int .u8 (0 : Int), .int .u8 (0 : Int), .int .u8 (0 : Int), .int .u8 (0 : Int), .int .u8 (0 : Int), .int .u8 (0 : Int), .int .u8 (0 : Int), .int .u8 (0 : Int), .int .u8 (0 : Int), .int .u8 (0 : Int), .int .u8 (0 : Int), .int .u8 (0 : Int), .int .u8 (0 : Int), .int .u8 (0 : Int), .int .u8 (0 : Int), .int .u8 (0 : Int), .int .u8 (0 : Int), .int .u8 (0 : Int), .int .u8 (0 : Int), .int .u8 (0 : Int), .int .u8 (0 : Int), .int .u8 (0 : Int), .int .u8 (0 : Int), .int .u8 (0 : Int), .int .u8 (0 : Int), .int .u8 (0 : Int), .int .u8 (0 : Int), .int .u8 (0 : Int), .int .u8 (0 : Int), .int .u8 (0 : Int), .int .u8 (0 : Int), .int .u8 (0 : Int), .int .u8 (0 : Int), .int .u8 (0 : Int), .int .u8 (0 : Int), .int .u8 (0 : Int), .int .u8 (0 : Int), .int .u8 (0 : Int), .int .u8 (0 : Int), .int .u8 (0 : Int), .int .u8 (0 : Int), .int .u8 (0 : Int), .int .u8 (0 : Int), .int .u8 (0 : Int), .int .u8 (0 : Int), .int .u8 (0 : Int), .int .u8 (0 : Int), .int .u8 (0 : Int), .int .u8 (0 : Int), .int .u8 (0 : Int), .int .u8 (0 : Int), .int .u8 (0 : Int), .int .u8 (0 : Int), .int .u8 (0 : Int), .int .u8 (0 : Int), .int .u8 (0 : Int), .int .u8 (0 : Int), .int .u8 (0 : Int), .int .u8 (0 : Int), .int .u8 (0 : Int), .int .u8 (0 : Int), .int .u8 (0 : Int), .int .u8 (0 : Int), .int .u8 (0 : Int), .int .u8 (0 : Int), .int .u8 (0 : Int), .int .u8 (0 : Int), .int .u8 (0 : Int), .int .u8 (0 : Int), .int .u8 (0 : Int), .int .u8 (0 : Int), .int .u8 (0 : Int), .int .u8 (0 : Int), .int .u8 (0 : Int), .int .u8 (0 : Int), .int .u8 (0 : Int), .int .u8 (0 : Int), .int .u8 (0 : Int), .int .u8 (0 : Int), .int .u8 (0 : Int), .int .u8 (0 : Int), .int .u8 (0 : Int), .int .u8 (0 : Int), .int .u8 (0 : Int), .int .u8 (0 : Int), .int .u8 (0 : Int), .int .u8 (0 : Int), .int .u8 (0 : Int), .int .u8 (0 : Int), .int .u8 (0 : Int), .int .u8 (0 : Int), .int .u8 (0 : Int), .int .u8 (0 : Int), .int .u8 (0 : Int), .int .u8 (0 : Int), .int .u8 (0 : Int), .int .u8 (0 : Int), .int .u8 (0 : Int), .int .u8 (0 : Int), .int .u8 (0 : Int), .int .u8 (0 : Int), .int .u8 (0 : Int), .int .u8 (0 : Int), .int .u8 (0 : Int), .int .u8 (0 : Int), .int .u8 (0 : Int), .int .u8 (0 : Int), .int .u8 (0 : Int), .int .u8 (0 : Int), .int .u8 (0 : Int), .int .u8 (0 : Int), .int .u8 (0 : Int), .int .u8 (0 : Int), .int .u8 (0 : Int), .int .u8 (0 : Int), .int .u8 (0 : Int), .int .u8 (0 : Int), .int .u8 (0 : Int), .int .u8 (0 : Int), .int .u8 (0 : Int), .int .u8 (0 : Int), .int .u8 (0 : Int), .int .u8 (0 : Int), .int .u8 (0 : Int), .int .u8 (0 : Int), .int .u8 (0 : Int), .int .u8 (0 : Int), .int .u8 (0 : Int), .int .u8 (0 : Int), .int .u8 (0 : Int), .int .u8 (0 : Int), .int .u8 (0 : Int), .int .u8 (0 : Int), .int .u8 (0 : Int), .int .u8 (0 : Int), .int .u8 (0 : Int), .int .u8 (0 : Int), .int .u8 (0 : Int), .int .u8 (0 : Int), .int .u8 (0 : Int), .int .u8 (0 : Int), .int .u8 (0 : Int), .int .u8 (0 : Int), .int .u8 (0 : Int), .int .u8 (0 : Int), .int .u8 (0 : Int), .int .u8 (0 : Int), .int .u8 (0 : Int), .int .u8 (0 : Int), .int .u8 (0 : Int), .int .u8 (0 : Int), .int .u8 (0 : Int), .int .u8 (0 : Int), .int .u8 (0 : Int), .int .u8 (0 : Int), .int .u8 (0 : Int), .int .u8 (0 : Int), .int .u8 (0 : Int), .int .u8 (0 : Int), .int .u8 (0 : Int), .int .u8 (0 : Int), .int .u8 (0 : Int), .int .u8 (0 : Int), .int .u8 (0 : Int), .int .u8 (0 : Int), .int .u8 (0 : Int), .int .u8 (0 : Int), .int .u8 (0 : Int), .int .u8 (0 : Int), .int .u8 (0 : Int), .int .u8 (0 : Int), .int .u8 (0 : Int), .int .u8 (0 : Int), .int .u8 (0 : Int), .int .u8 (0 : Int), .int .u8 (0 : Int), .int .u8 (0 : Int), .int .u8 (0 : Int), .int .u8 (0 : Int), .int .u8 (0 : Int), .int .u8 (0 : Int), .int .u8 (0 : Int), .int .u8 (0 : Int), .int .u8 (0 : Int), .int .u8 (0 : Int), .int .u8 (0 : Int), .int .u8 (0 : Int), .int .u8 (0 : Int), .int .u8 (0 : Int), .int .u8 (0 : Int), .int .u8 (0 : Int), .int .u8 (0 : Int), .int .u8 (0 : Int), .int .u8 (0 : Int), .int .u8 (0 : Int), .int .u8 (0 : Int), .int .u8 (0 : Int), .int .u8 (0 : Int), .int .u8 (0 : Int), .int .u8 (0 : Int), .int .u8 (0 : Int), .int .u8 (0 : Int), .int .u8 (0 : Int), .int .u8 (0 : Int), .int .u8 (0 : Int), .int .u8 (0 : Int), .int .u8 (0 : Int), .int .u8 (0 : Int), .int .u8 (0 : Int), .int .u8 (0 : Int), .int .u8 (0 : Int), .int .u8 (0 : Int), .int .u8 (0 : Int), .int .u8 (0 : Int), .int .u8 (0 : Int), .int .u8 (0 : Int), .int .u8 (0 : Int), .int .u8 (0 : Int), .int .u8 (0 : Int), .int .u8 (0 : Int), .int .u8 (0 : Int), .int .u8 (0 : Int), .int .u8 (0 : Int), .int .u8 (0 : Int), .int .u8 (0 : Int), .int .u8 (0 : Int), .int .u8 (0 : Int), .int .u8 (0 : Int), .int .u8 (0 : Int), .int .u8 (0 : Int), .int .u8 (0 : Int), .int .u8 (0 : Int), .int .u8 (0 : Int), .int .u8 (0 : Int), .int .u8 (0 : Int), .int .u8 (0 : Int), .int .u8 (0 : Int), .int .u8 (0 : Int), .int .u8 (0 : Int), .int .u8 (0 : Int), .int .u8 (0 : Int), .int .u8 (0 : Int), .int .u8 (0 : Int), .int .u8 (0 : Int), .int .u8 (0 : Int), .int .u8 (0 : Int), .int .u8 (0 : Int), .int .u8 (0 : Int), .int .u8 (0 : Int), .int .u8 (0 : Int), .int .u8 (0 : Int), .int .u8 (0 : Int), .int .u8 (0 : Int), .int .u8 (0 : Int), .int .u8 (0 : Int), .int .u8 (0 : Int), .int .u8 (0 : Int), .int .u8 (0 : Int), .int .u8 (0 : Int), .int .u8 (0 : Int), .int .u8 (0 : Int), .int .u8 (0 : Int), .int .u8 (0 : Int), .int .u8 (0 : Int), .int .u8 (0 : Int), .int .u8 (0 : Int), .int .u8 (0 : Int), .int .u8 (0 : Int), .int .u8 (0 : Int), .int .u8 (0 : Int), .int .u8 (0 : Int), .int .u8 (0 : Int), .int .u8 (0 : Int), .int .u8 (0 : Int), .int .u8 (0 : Int), .int .u8 (0 : Int), .int .u8 (0 : Int), .int .u8 (0 : Int), .int .u8 (0 : Int), .int .u8 (0 : Int), .int .u8 (0 : Int), .int .u8 (0 : Int), .int .u8 (0 : Int), .int .u8 (0 : Int), .int .u8 (0 : Int), .int .u8 (0 : Int), .int .u8 (0 : Int), .int .u8 (0 : Int), .int .u8 (0 : Int), .int .u8 (0 : Int), .int .u8 (0 : Int), .int .u8 (0 : Int), .int .u8 (0 : Int), .int .u8 (0 : Int), .int .u8 (0 : Int), .int .u8 (0 : Int), .int .u8 (0 : Int), .int .u8 (0 : Int), .int .u8 (0 : Int), .int .u8 (0 : Int), .int .u8 (0 : Int), .int .u8 (0 : Int), .int .u8 (0 : Int), .int .u8 (0 : Int), .int .u8 (0 : Int), .int .u8 (0 : Int), .int .u8 (0 : Int), .int .u8 (0 : Int), .int .u8 (0 : Int), .int .u8 (0 : Int), .int .u8 (0 : Int), .int .u8 (0 : Int), .int .u8 (0 : Int), .int .u8 (0 : Int), .int .u8 (0 : Int), .int .u8 (0 : Int), .int .u8 (0 : Int), .int .u8 (0 : Int), .int .u8 (0 : Int), .int .u8 (0 : Int), .int .u8 (0 : Int), .int .u8 (0 : Int), .int .u8 (0 : Int), .int .u8 (0 : Int), .int .u8 (0 : Int), .int .u8 (0 : Int), .int .u8 (0 : Int), .int .u8 (0 : Int), .int .u8 (0 : Int), .int .u8 (0 : Int), .int .u8 (0 : Int), .int .u8 (0 : Int), .int .u8 (0 : Int), .int .u8 (0 : Int), .int .u8 (0 : Int), .int .u8 (0 : Int), .int .u8 (0 : Int), .int .u8 (0 : Int), .int .u8 (0 : Int), .int .u8 (0 : Int), .int .u8 (0 : Int), .int .u8 (0 : Int), .int .u8 (0 : Int), .int .u8 (0 : Int), .int .u8 (0 : Int), .int .u8 (0 : Int), .int .u8 (0 : Int), .int .u8 (0 : Int), .int .u8 (0 : Int), .int .u8 (0 : Int), .int .u8 (0 : Int), .int .u8 (0 : Int), .int .u8 (0 : Int), .int .u8 (0 : Int), .int .u8 (0 : Int), .int .u8 (0 : Int), .int .u8 (0 : Int), .int .u8 (0 : Int), .int .u8 (0 : Int), .int .u8 (0 : Int), .int .u8 (0 : Int), .int .u8 (0 : Int), .slice (some (⟨H3.size, 0, none⟩ : Addr)) x15.toNat x15.toNat, .bool x13, .bool x14] t_pciconf_Device (0, 0))) (fun H5 : Heap =>
  ∃ x16 : Sl, rd H5 ((⟨H4.size, 0, none⟩ : Addr).add 512) = some (.slice x16.p x16.n x16.c) ∧ (
  ∃ x17 : Sl, rd H5 ((⟨H.size, 0, none⟩ : Addr).add 10) = some (.slice x17.p x17.n x17.c) ∧ (
  runH Tryz.prog (Builtin.copy_ #[t_sl_api_Bar, t_sl_api_Bar] t_int #[.slice x16.p x16.n x16.c, .slice x17.p x17.n x17.c]) H5 (fun v2 H6 =>
  ∃ x18 : Int, v2 = .int .i64 x18 ∧ (
  ∃ x19 : Int, rd H6 ((⟨H.size, 0, none⟩ : Addr).add 2) = some (.int .i64 x19) ∧ (
  CallsH Tryz.prog n_pciconf_Device_define #[.pointer (some (⟨H4.size, 0, none⟩ : Addr)), .int .i64 (0 : Int), .int .i64 (2 : Int), .int .u64 (IntKind.u64.wrap x19), .int .u64 (0 : Int)] H6 (fun v3 H7 =>
  v3 = .tuple #[] ∧ (
  ∃ x20 : Int, rd H7 ((⟨H.size, 0, none⟩ : Addr).add 3) = some (.int .i64 x20) ∧ (
  CallsH Tryz.prog n_pciconf_Device_define #[.pointer (some (⟨H4.size, 0, none⟩ : Addr)), .int .i64 (2 : Int), .int .i64 (2 : Int), .int .u64 (IntKind.u64.wrap x20), .int .u64 (0 : Int)] H7 (fun v4 H8 =>
  v4 = .tuple #[] ∧ (
  CallsH Tryz.prog n_pciconf_Device_define #[.pointer (some (⟨H4.size, 0, none⟩ : Addr)), .int .i64 (4 : Int), .int .i64 (2 : Int), .int .u64 (0 : Int), .int .u64 (7 : Int)] H8 (fun v5 H9 =>
  v5 = .tuple #[] ∧ (
  CallsH Tryz.prog n_pciconf_Device_define #[.pointer (some (⟨H4.size, 0, none⟩ : Addr)), .int .i64 (60 : Int), .int .i64 (1 : Int), .int .u64 (0 : Int), .int .u64 (255 : Int)] H9 (fun v6 H10 =>
  v6 = .tuple #[] ∧ (
  ∃ x21 : Int, rd H10 ((⟨H.size, 0, none⟩ : Addr).add 8) = some (.int .i64 x21) ∧ (
  CallsH Tryz.prog n_pciconf_Device_define #[.pointer (some (⟨H4.size, 0, none⟩ : Addr)), .int .i64 (61 : Int), .int .i64 (1 : Int), .int .u64 (IntKind.u64.wrap x21), .int .u64 (0 : Int)] H10 (fun v7 H11 =>
  v7 = .tuple #[] ∧ (
  ∃ x22 : Sl, rd H11 ((⟨H4.size, 0, none⟩ : Addr).add 512) = some (.slice x22.p x22.n x22.c) ∧ (
  ∃ I_ : Int → Heap → Prop, ∃ M_ : Int → Heap → Nat, I_ (0 : Int) H11 ∧ (∀ x23 : Int, ∀ H12 : Heap, I_ x23 H12 → F_pciconf_New_r1 R H H4 x22 I_ M_ x23 H12))))))))))))))))))))))))))))))))))

theorem F_pciconf_New_eq (R : Value → Heap → Prop) (f_0 : Int) (f_1 : Int) (f_2 : Int) (f_3 : Int) (f_4 : Bool) (f_5 : Bool) (f_6 : Bool) (f_7 : Int) (f_8 : Int) (f_9 : Int) (f_10 : Sl) (H : Heap) : wpF Tryz.prog Tryz.f16 [(51, .int .i64 0)] [] [(11, [51], [1, 4, 49, 50])] [20] [.agg #[.int .i64 f_0, .int .i64 f_1, .int .i64 f_2, .int .i64 f_3, .bool f_4, .bool f_5, .bool f_6, .int .i64 f_7, .int .i64 f_8, .int .i64 f_9, .slice f_10.p f_10.n f_10.c]] H R = F_pciconf_New R f_0 f_1 f_2 f_3 f_4 f_5 f_6 f_7 f_8 f_9 f_10 H := by kernel_rfl

theorem F_pciconf_New_ok {R : Value → Heap → Prop} (f_0 : Int) (f_1 : Int) (f_2 : Int) (f_3 : Int) (f_4 : Bool) (f_5 : Bool) (f_6 : Bool) (f_7 : Int) (f_8 : Int) (f_9 : Int) (f_10 : Sl) {H : Heap} (h : F_pciconf_New R f_0 f_1 f_2 f_3 f_4 f_5 f_6 f_7 f_8 f_9 f_10 H) : CallsH Tryz.prog n_pciconf_New #[.agg #[.int .i64 f_0, .int .i64 f_1, .int .i64 f_2, .int .i64 f_3, .bool f_4, .bool f_5, .bool f_6, .int .i64 f_7, .int .i64 f_8, .int .i64 f_9, .slice f_10.p f_10.n f_10.c]] H R :=
  wpF_ok Tryz.func16 (F_pciconf_New_eq R f_0 f_1 f_2 f_3 f_4 f_5 f_6 f_7 f_8 f_9 f_10 H) h

/-! ### 17: (*platformfw/pciconf.Device).Write -/

def F_pciconf_Device_Write_r1 (R : Value → Heap → Prop) (d : Addr) (offset : Int) (width : Int) (v : Int) (I_ : Int → Heap → Prop) (M_ : Int → Heap → Nat) (x1 : Int) (H2 : Heap) : Prop :=
  iteB (decide (x1 < width)) (
  0 ≤ (IntKind.i64.wrap (offset + x1)) ∧ (IntKind.i64.wrap (offset + x1)) < ((256 : Nat) : Int) ∧ (∃ mask : Int, rd H2 ((d.add 256).add ((IntKind.i64.wrap (offset + x1)).toNat * 1)) = some (.int .u8 mask) ∧ (
  0 ≤ (IntKind.i64.wrap (offset + x1)) ∧ (IntKind.i64.wrap (offset + x1)) < ((256 : Nat) : Int) ∧ (∃ x2 : Int, rd H2 (d.add ((IntKind.i64.wrap (offset + x1)).toNat * 1)) = some (.int .u8 x2) ∧ (
  0 ≤ (IntKind.i64.wrap ((8 : Int) * x1)) ∧ (
  0 ≤ (IntKind.i64.wrap (offset + x1)) ∧ (IntKind.i64.wrap (offset + x1)) < ((256 : Nat) : Int) ∧ (okRow H2 (d.add ((IntKind.i64.wrap (offset + x1)).toNat * 1)) 1 ∧ (
  letH (wrs H2 (d.add ((IntKind.i64.wrap (offset + x1)).toNat * 1)) [.int .u8 (bitsOr .u8 (bitsAndNot .u8 x2 mask) (bitsAnd .u8 (IntKind.u8.wrap (v.fdiv (2 ^ (min (IntKind.i64.wrap ((8 : Int) * x1)).toNat IntKind.u64.bits)))) mask))]) (fun H3 : Heap =>
  I_ (IntKind.i64.wrap (x1 + (1 : Int))) H3 ∧ M_ (IntKind.i64.wrap (x1 + (1 : Int))) H3 < M_ x1 H2))))))))) (
  R (.tuple #[]) H2)

def F_pciconf_Device_Write (R : Value → Heap → Prop) (d : Addr) (offset : Int) (width : Int) (v : Int) (H : Heap) : Prop :=
  CallsH Tryz.prog n_pciconf_wellFormed #[.int .i64 offset, .int .i64 width] H (fun v1 H1 =>
  ∃ x : Bool, v1 = .bool x ∧ (
  iteB (!x) (
  R (.tuple #[]) H1) (
  ∃ I_ : Int → Heap → Prop, ∃ M_ : Int → Heap → Nat, I_ (0 : Int) H1 ∧ (∀ x1 : Int, ∀ H2 : Heap, I_ x1 H2 → F_pciconf_Device_Write_r1 R d offset width v I_ M_ x1 H2))))

theorem F_pciconf_Device_Write_eq (R : Value → Heap → Prop) (d : Addr) (offset : Int) (width : Int) (v : Int) (H : Heap) : wpF Tryz.prog Tryz.f17 [(15, .int .i64 0)] [] [(2, [15], [0, 1, 3, 14])] [20] [.pointer (some d), .int .i64 offset, .int .i64 width, .int .u64 v] H R = F_pciconf_Device_Write R d offset width v H := by kernel_rfl

theorem F_pciconf_Device_Write_ok {R : Value → Heap → Prop} (d : Addr) (offset : Int) (width : Int) (v : Int) {H : Heap} (h : F_pciconf_Device_Write R d offset width v H) : CallsH Tryz.prog n_pciconf_Device_Write #[.pointer (some d), .int .i64 offset, .int .i64 width, .int .u64 v] H R :=
  wpF_ok Tryz.func17 (F_pciconf_Device_Write_eq R d offset width v H) h

/-! ### 18: (*platformfw/pciconf.Device).Windows -/

def F_pciconf_Device_Windows_k1 (d : Addr) (I_ : Sl → Int → Heap → Prop) (M_ : Sl → Int → Heap → Nat) (l : Sl) (x1 : Int) (H1 : Heap) (H3 : Heap) (width : Int) (H8 : Heap) : Prop :=
  ∃ x5 : Int, rd H8 ((⟨H1.size, 0, none⟩ : Addr).add 1) = some (.int .i64 x5) ∧ (
  ∃ x6 : Int, rd H8 ((⟨H1.size, 0, none⟩ : Addr).add 1) = some (.int .i64 x6) ∧ (
  CallsH Tryz.prog n_pciconf_Device_number #[.pointer (some d), .int .i64 (IntKind.i64.wrap ((16 : Int) + (IntKind.i64.wrap ((4 : Int) * x1)))), .int .i64 width] H8 (fun v H9 =>
  ∃ x7 : Int, v = .int .u64 x7 ∧ (
  Keeps H8 H9 [(((⟨H1.size, 0, none⟩ : Addr).add 1), 1), (((⟨H1.size, 0, none⟩ : Addr).add 1), 1)] ∧ (
  0 ≤ x5 ∧ (
  0 ≤ x6 ∧ (
  okRow H9 ((⟨H3.size, 0, none⟩ : Addr).add 2) 1 ∧ (
  letH (wrs H9 ((⟨H3.size, 0, none⟩ : Addr).add 2) [.int .u64 (IntKind.u64.wrap ((x7.fdiv (2 ^ (min x5.toNat IntKind.u64.bits))) * 2 ^ (min x6.toNat IntKind.u64.bits)))]) (fun H10 : Heap =>
  ∃ x8 : Int, rd H10 ((⟨H1.size, 0, none⟩ : Addr).add 1) = some (.int .i64 x8) ∧ (
  0 ≤ x8 ∧ (
  okRow H10 (((⟨H3.size, 0, none⟩ : Addr).add 2).add 1) 1 ∧ (
  letH (wrs H10 (((⟨H3.size, 0, none⟩ : Addr).add 2).add 1) [.int .u64 (IntKind.u64.wrap ((1 : Int) * 2 ^ (min x8.toNat IntKind.u64.bits)))]) (fun H11 : Heap =>
  ∃ x9 : Int, rd H11 ((⟨H3.size, 0, none⟩ : Addr).add 1) = some (.int .i64 x9) ∧ (
  CallsH Tryz.prog n_pciconf_Device_enabled #[.pointer (some d), .int .i64 x9] H11 (fun v1 H12 =>
  ∃ x10 : Bool, v1 = .bool x10 ∧ (
  okRow H12 ((⟨H3.size, 0, none⟩ : Addr).add 4) 1 ∧ (
  letH (wrs H12 ((⟨H3.size, 0, none⟩ : Addr).add 4) [.bool x10]) (fun H13 : Heap =>
  ∃ x11 : Int, rd H13 (⟨H3.size, 0, none⟩ : Addr) = some (.int .i64 x11) ∧ ∃ x12 : Int, rd H13 ((⟨H3.size, 0, none⟩ : Addr).add 1) = some (.int .i64 x12) ∧ ∃ x13 : Int, rd H13 ((⟨H3.size, 0, none⟩ : Addr).add 2) = some (.int .u64 x13) ∧ ∃ x14 : Int, rd H13 ((⟨H3.size, 0, none⟩ : Addr).add 3) = some (.int .u64 x14) ∧ ∃ x15 : Bool, rd H13 ((⟨H3.size, 0, none⟩ : Addr).add 4) = some (.bool x15) ∧ (
  letH (H13.push (.cells #[.int .i64 x11, .int .i64 x12, .int .u64 x13, .int .u64 x14, .bool x15] t_api_Window (0, 0))) (fun H14 : Heap =>
  runH Tryz.prog (Builtin.append_ #[t_sl_api_Window, t_sl_api_Window] t_sl_api_Window #[.slice l.p l.n l.c, .slice (some (⟨H13.size, 0, none⟩ : Addr)) 1 1]) H14 (fun v2 H15 =>
  ∃ l1 : Sl, v2 = .slice l1.p l1.n l1.c ∧ (
  I_ l1 (IntKind.i64.wrap (x1 + (1 : Int))) H15 ∧ M_ l1 (IntKind.i64.wrap (x1 + (1 : Int))) H15 < M_ l x1 H1))))))))))))))))))))))

def F_pciconf_Device_Windows_r2 (R : Value → Heap → Prop) (d : Addr) (x : Sl) (I_ : Sl → Int → Heap → Prop) (M_ : Sl → Int → Heap → Nat) (l : Sl) (x1 : Int) (H1 : Heap) : Prop :=
  iteB (decide (x1 < (x.n : Int))) (
  0 ≤ x1 ∧ x1 < (x.n : Int) ∧ (unSome x.p (fun a =>
  ∃ x2 : Int, rd H1 (a.add (x1.toNat * 2)) = some (.int .i64 x2) ∧ ∃ x3 : Int, rd H1 ((a.add (x1.toNat * 2)).add 1) = some (.int .i64 x3) ∧ (
  letH (H1.push (.cells #[.int .i64 (0 : Int), .int .i64 (0 : Int)] t_api_Bar (0, 0))) (fun H2 : Heap =>
  okRow H2 (⟨H1.size, 0, none⟩ : Addr) 2 ∧ (
  letH (wrs H2 (⟨H1.size, 0, none⟩ : Addr) [.int .i64 x2, .int .i64 x3]) (fun H3 : Heap =>
  letH (H3.push (.cells #[.int .i64 (0 : Int), .int .i64 (0 : Int), .int .u64 (0 : Int), .int .u64 (0 : Int), .bool false] t_api_Window (0, 0))) (fun H4 : Heap =>
  okRow H4 (⟨H3.size, 0, none⟩ : Addr) 5 ∧ (
  letH (wrs H4 (⟨H3.size, 0, none⟩ : Addr) [.int .i64 x1, .int .i64 (1 : Int), .int .u64 (0 : Int), .int .u64 (0 : Int), .bool false]) (fun H5 : Heap =>
  ∃ J_ : Int → Heap → Prop, (
  ∃ x4 : Int, rd H5 (⟨H1.size, 0, none⟩ : Addr) = some (.int .i64 x4) ∧ (
  iteB (x4 == (0 : Int)) (
  I_ l (IntKind.i64.wrap (x1 + (1 : Int))) H5 ∧ M_ l (IntKind.i64.wrap (x1 + (1 : Int))) H5 < M_ l x1 H1) (
  iteB (x4 == (1 : Int)) (
  okRow H5 ((⟨H3.size, 0, none⟩ : Addr).add 1) 1 ∧ (
  letH (wrs H5 ((⟨H3.size, 0, none⟩ : Addr).add 1) [.int .i64 (0 : Int)]) (fun H6 : Heap =>
  J_ (4 : Int) H6))) (
  iteB (x4 == (3 : Int)) (
  J_ (8 : Int) H5) (
  iteB (x4 == (4 : Int)) (
  okRow H5 ((⟨H3.size, 0, none⟩ : Addr).add 1) 1 ∧ (
  letH (wrs H5 ((⟨H3.size, 0, none⟩ : Addr).add 1) [.int .i64 (2 : Int)]) (fun H7 : Heap =>
  J_ (8 : Int) H7))) (
  J_ (4 : Int) H5)))))) ∧ (∀ width : Int, ∀ H8 : Heap, J_ width H8 → F_pciconf_Device_Windows_k1 d I_ M_ l x1 H1 H3 width H8))))))))))) (
  ∃ x16 : Bool, rd H1 (d.add 513) = some (.bool x16) ∧ (
  iteB (!x16) (
  R (.slice l.p l.n l.c) H1) (
  CallsH Tryz.prog n_pciconf_Device_number #[.pointer (some d), .int .i64 (28 : Int), .int .i64 (1 : Int)] H1 (fun v3 H16 =>
  ∃ x17 : Int, v3 = .int .u64 x17 ∧ (
  0 ≤ (4 : Int) ∧ (
  CallsH Tryz.prog n_pciconf_Device_number #[.pointer (some d), .int .i64 (29 : Int), .int .i64 (1 : Int)] H16 (fun v4 H17 =>
  ∃ x18 : Int, v4 = .int .u64 x18 ∧ (
  0 ≤ (4 : Int) ∧ (
  letV (x17.fdiv (2 ^ (min (4 : Int).toNat IntKind.u64.bits))) (fun first : Int =>
  letV (x18.fdiv (2 ^ (min (4 : Int).toNat IntKind.u64.bits))) (fun last : Int =>
  0 ≤ (12 : Int) ∧ (
  0 ≤ (12 : Int) ∧ (
  CallsH Tryz.prog n_pciconf_Device_appendWindow #[.pointer (some d), .slice l.p l.n l.c, .int .i64 (0 : Int), .int .u64 (IntKind.u64.wrap (first * 2 ^ (min (12 : Int).toNat IntKind.u64.bits))), .int .u64 (bitsOr .u64 (IntKind.u64.wrap (last * 2 ^ (min (12 : Int).toNat IntKind.u64.bits))) (4095 : Int))] H17 (fun v5 H18 =>
  ∃ l2 : Sl, v5 = .slice l2.p l2.n l2.c ∧ (
  CallsH Tryz.prog n_pciconf_Device_number #[.pointer (some d), .int .i64 (32 : Int), .int .i64 (2 : Int)] H18 (fun v6 H19 =>
  ∃ x19 : Int, v6 = .int .u64 x19 ∧ (
  0 ≤ (4 : Int) ∧ (
  CallsH Tryz.prog n_pciconf_Device_number #[.pointer (some d), .int .i64 (34 : Int), .int .i64 (2 : Int)] H19 (fun v7 H20 =>
  ∃ x20 : Int, v7 = .int .u64 x20 ∧ (
  0 ≤ (4 : Int) ∧ (
  letV (x19.fdiv (2 ^ (min (4 : Int).toNat IntKind.u64.bits))) (fun first1 : Int =>
  letV (x20.fdiv (2 ^ (min (4 : Int).toNat IntKind.u64.bits))) (fun last1 : Int =>
  0 ≤ (20 : Int) ∧ (
  0 ≤ (20 : Int) ∧ (
  CallsH Tryz.prog n_pciconf_Device_appendWindow #[.pointer (some d), .slice l2.p l2.n l2.c, .int .i64 (1 : Int), .int .u64 (IntKind.u64.wrap (first1 * 2 ^ (min (20 : Int).toNat IntKind.u64.bits))), .int .u64 (bitsOr .u64 (IntKind.u64.wrap (last1 * 2 ^ (min (20 : Int).toNat IntKind.u64.bits))) (1048575 : Int))] H20 (fun v8 H21 =>
  ∃ l3 : Sl, v8 = .slice l3.p l3.n l3.c ∧ (
  ∃ x21 : Bool, rd H21 (d.add 514) = some (.bool x21) ∧ (
  iteB x21 (
  CallsH Tryz.prog n_pciconf_Device_number #[.pointer (some d), .int .i64 (36 : Int), .int .i64 (2 : Int)] H21 (fun v9 H22 =>
  ∃ x22 : Int, v9 = .int .u64 x22 ∧ (
  0 ≤ (4 : Int) ∧ (
  0 ≤ (20 : Int) ∧ (
  CallsH Tryz.prog n_pciconf_Device_number #[.pointer (some d), .int .i64 (40 : Int), .int .i64 (4 : Int)] H22 (fun v10 H23 =>
  ∃ x23 : Int, v10 = .int .u64 x23 ∧ (
  0 ≤ (32 : Int) ∧ (
  letV (bitsOr .u64 (IntKind.u64.wrap ((x22.fdiv (2 ^ (min (4 : Int).toNat IntKind.u64.bits))) * 2 ^ (min (20 : Int).toNat IntKind.u64.bits))) (IntKind.u64.wrap (x23 * 2 ^ (min (32 : Int).toNat IntKind.u64.bits)))) (fun first2 : Int =>
  CallsH Tryz.prog n_pciconf_Device_number #[.pointer (some d), .int .i64 (38 : Int), .int .i64 (2 : Int)] H23 (fun v11 H24 =>
  ∃ x24 : Int, v11 = .int .u64 x24 ∧ (
  0 ≤ (4 : Int) ∧ (
  0 ≤ (20 : Int) ∧ (
  CallsH Tryz.prog n_pciconf_Device_number #[.pointer (some d), .int .i64 (44 : Int), .int .i64 (4 : Int)] H24 (fun v12 H25 =>
  ∃ x25 : Int, v12 = .int .u64 x25 ∧ (
  0 ≤ (32 : Int) ∧ (
  letV (bitsOr .u64 (IntKind.u64.wrap ((x24.fdiv (2 ^ (min (4 : Int).toNat IntKind.u64.bits))) * 2 ^ (min (20 : Int).toNat IntKind.u64.bits))) (IntKind.u64.wrap (x25 * 2 ^ (min (32 : Int).toNat IntKind.u64.bits)))) (fun last2 : Int =>
  CallsH Tryz.prog n_pciconf_Device_appendWindow #[.pointer (some d), .slice l3.p l3.n l3.c, .int .i64 (2 : Int), .int .u64 first2, .int .u64 (bitsOr .u64 last2 (1048575 : Int))] H25 (fun v13 H26 =>
  ∃ l4 : Sl, v13 = .slice l4.p l4.n l4.c ∧ (
  R (.slice l4.p l4.n l4.c) H26))))))))))))))))))) (
  R (.slice l3.p l3.n l3.c) H21)))))))))))))))))))))))))))))

def F_pciconf_Device_Windows (R : Value → Heap → Prop) (d : Addr) (H : Heap) : Prop :=
  ∃ x : Sl, rd H (d.add 512) = some (.slice x.p x.n x.c) ∧ (
  ∃ I_ : Sl → Int → Heap → Prop, ∃ M_ : Sl → Int → Heap → Nat, I_ (Sl.mk none 0 0) (0 : Int) H ∧ (∀ l : Sl, ∀ x1 : Int, ∀ H1 : Heap, I_ l x1 H1 → F_pciconf_Device_Windows_r2 R d x I_ M_ l x1 H1))

theorem F_pciconf_Device_Windows_eq (R : Value → Heap → Prop) (d : Addr) (H : Heap) : wpF Tryz.prog Tryz.f18 [(3, .slice none 0 0), (7, .int .i64 0), (15, .int .i64 0)] [(16, [7], [0, 3, 4, 5, 6, 13, 14, 15])] [(3, [3, 15], [0, 13, 14])] [20] [.pointer (some d)] H R = F_pciconf_Device_Windows R d H := by kernel_rfl

theorem F_pciconf_Device_Windows_ok {R : Value → Heap → Prop} (d : Addr) {H : Heap} (h : F_pciconf_Device_Windows R d H) : CallsH Tryz.prog n_pciconf_Device_Windows #[.pointer (some d)] H R :=
  wpF_ok Tryz.func18 (F_pciconf_Device_Windows_eq R d H) h

/-! ### 19: platformfw/platformfwhelp.Equal[platformfw/api.Window] -/

def F_help_Equal_api_Window_r1 (R : Value → Heap → Prop) (a : Sl) (b : Sl) (I_ : Int → Heap → Prop) (M_ : Int → Heap → Nat) (i : Int) (H1 : Heap) : Prop :=
  iteB (decide (i < (a.n : Int))) (
  0 ≤ i ∧ i < (a.n : Int) ∧ (unSome a.p (fun a1 =>
  ∃ x : Int, rd H1 (a1.add (i.toNat * 5)) = some (.int .i64 x) ∧ ∃ x1 : Int, rd H1 ((a1.add (i.toNat * 5)).add 1) = some (.int .i64 x1) ∧ ∃ x2 : Int, rd H1 ((a1.add (i.toNat * 5)).add 2) = some (.int .u64 x2) ∧ ∃ x3 : Int, rd H1 ((a1.add (i.toNat * 5)).add 3) = some (.int .u64 x3) ∧ ∃ x4 : Bool, rd H1 ((a1.add (i.toNat * 5)).add 4) = some (.bool x4) ∧ (
  0 ≤ i ∧ i < (b.n : Int) ∧ (unSome b.p (fun a2 =>
  ∃ x5 : Int, rd H1 (a2.add (i.toNat * 5)) = some (.int .i64 x5) ∧ ∃ x6 : Int, rd H1 ((a2.add (i.toNat * 5)).add 1) = some (.int .i64 x6) ∧ ∃ x7 : Int, rd H1 ((a2.add (i.toNat * 5)).add 2) = some (.int .u64 x7) ∧ ∃ x8 : Int, rd H1 ((a2.add (i.toNat * 5)).add 3) = some (.int .u64 x8) ∧ ∃ x9 : Bool, rd H1 ((a2.add (i.toNat * 5)).add 4) = some (.bool x9) ∧ (
  iteB (!((x == x5) && ((x1 == x6) && (((x2 == x7) && ((x3 == x8) && true)) && ((x4 == x9) && true))))) (
  R (.bool false) H1) (
  letV (IntKind.i64.wrap (i + (1 : Int))) (fun i1 : Int =>
  I_ i1 H1 ∧ M_ i1 H1 < M_ i H1))))))))) (
  R (.bool true) H1)

def F_help_Equal_api_Window (R : Value → Heap → Prop) (a : Sl) (b : Sl) (H : Heap) : Prop :=
  iteB ((a.n : Int) != (b.n : Int)) (
  R (.bool false) H) (
  ∃ I_ : Int → Heap → Prop, ∃ M_ : Int → Heap → Nat, I_ (0 : Int) H ∧ (∀ i : Int, ∀ H1 : Heap, I_ i H1 → F_help_Equal_api_Window_r1 R a b I_ M_ i H1))

theorem F_help_Equal_api_Window_eq (R : Value → Heap → Prop) (a : Sl) (b : Sl) (H : Heap) : wpF Tryz.prog Tryz.f19 [(5, .int .i64 0)] [] [(4, [5], [0, 1])] [20] [.slice a.p a.n a.c, .slice b.p b.n b.c] H R = F_help_Equal_api_Window R a b H := by kernel_rfl

theorem F_help_Equal_api_Window_ok {R : Value → Heap → Prop} (a : Sl) (b : Sl) {H : Heap} (h : F_help_Equal_api_Window R a b H) : CallsH Tryz.prog n_help_Equal_api_Window #[.slice a.p a.n a.c, .slice b.p b.n b.c] H R :=
  wpF_ok Tryz.func19 (F_help_Equal_api_Window_eq R a b H) h

/-! ### 20: platformfw/platformfwhelp.Mod -/

def F_help_Mod (R : Value → Heap → Prop) (v : Int) (n : Int) (H : Heap) : Prop :=
  (IntKind.u64.wrap n) ≠ 0 ∧ (
  letV (IntKind.i64.wrap ((IntKind.u64.wrap v).tmod (IntKind.u64.wrap n))) (fun x : Int =>
  R (.int .i64 x) H))

theorem F_help_Mod_eq (R : Value → Heap → Prop) (v : Int) (n : Int) (H : Heap) : wpF Tryz.prog Tryz.f20 [] [] [] [20] [.int .i64 v, .int .i64 n] H R = F_help_Mod R v n H := by kernel_rfl

theorem F_help_Mod_ok {R : Value → Heap → Prop} (v : Int) (n : Int) {H : Heap} (h : F_help_Mod R v n H) : CallsH Tryz.prog n_help_Mod #[.int .i64 v, .int .i64 n] H R :=
  wpF_ok Tryz.func20 (F_help_Mod_eq R v n H) h

/-! ### 21: platformfw/platformfwgen.bars -/

def F_gen_bars_k1 (n : Int) (J_ : Int → Heap → Prop) (x2 : Bool) (H2 : Heap) : Prop :=
  iteB x2 (
  letV (IntKind.i64.wrap ((8 : Int) + (n.tmod (16 : Int)))) (fun n2 : Int =>
  J_ n2 H2)) (
  letV (IntKind.i64.wrap ((30 : Int) + (n.tmod (4 : Int)))) (fun n3 : Int =>
  J_ n3 H2))

def F_gen_bars_k2 (most : Int) (I_ : Sl → Int → Heap → Prop) (M_ : Sl → Int → Heap → Nat) (out : Sl) (i : Int) (H1 : Heap) (k : Int) (n4 : Int) (H3 : Heap) : Prop :=
  iteB (decide (k < (3 : Int))) (
  letH (H3.push (.cells #[.int .i64 k, .int .i64 n4] t_api_Bar (0, 0))) (fun H4 : Heap =>
  runH Tryz.prog (Builtin.append_ #[t_sl_api_Bar, t_sl_api_Bar] t_sl_api_Bar #[.slice out.p out.n out.c, .slice (some (⟨H3.size, 0, none⟩ : Addr)) 1 1]) H4 (fun v2 H5 =>
  ∃ out1 : Sl, v2 = .slice out1.p out1.n out1.c ∧ (
  letV (IntKind.i64.wrap (i + (1 : Int))) (fun i1 : Int =>
  I_ out1 i1 H5 ∧ M_ out1 i1 H5 < M_ out i H1))))) (
  iteB (decide ((IntKind.i64.wrap ((out.n : Int) + (2 : Int))) ≤ most)) (
  letH (H3.push (.cells #[.int .i64 k, .int .i64 n4, .int .i64 (0 : Int), .int .i64 (0 : Int)] t_api_Bar (0, 0))) (fun H6 : Heap =>
  runH Tryz.prog (Builtin.append_ #[t_sl_api_Bar, t_sl_api_Bar] t_sl_api_Bar #[.slice out.p out.n out.c, .slice (some (⟨H3.size, 0, none⟩ : Addr)) 2 2]) H6 (fun v3 H7 =>
  ∃ out2 : Sl, v3 = .slice out2.p out2.n out2.c ∧ (
  letV (IntKind.i64.wrap (i + (1 : Int))) (fun i2 : Int =>
  I_ out2 i2 H7 ∧ M_ out2 i2 H7 < M_ out i H1))))) (
  letV (IntKind.i64.wrap (i + (1 : Int))) (fun i3 : Int =>
  I_ out i3 H3 ∧ M_ out i3 H3 < M_ out i H1)))

def F_gen_bars_r3 (R : Value → Heap → Prop) (l : Sl) (most : Int) (I_ : Sl → Int → Heap → Prop) (M_ : Sl → Int → Heap → Nat) (out : Sl) (i : Int) (H1 : Heap) : Prop :=
  iteB (decide (i < (l.n : Int))) (
  iteB (decide ((out.n : Int) < most)) (
  0 ≤ i ∧ i < (l.n : Int) ∧ (unSome l.p (fun a =>
  ∃ x : Int, rd H1 (a.add (i.toNat * 2)) = some (.int .i64 x) ∧ (
  CallsP Tryz.prog n_help_Mod #[.int .i64 x, .int .i64 (5 : Int)] (fun v =>
  ∃ k : Int, v = .int .i64 k ∧ (
  0 ≤ i ∧ i < (l.n : Int) ∧ (unSome l.p (fun a1 =>
  ∃ x1 : Int, rd H1 ((a1.add (i.toNat * 2)).add 1) = some (.int .i64 x1) ∧ (
  CallsP Tryz.prog n_help_Mod #[.int .i64 x1, .int .i64 (30 : Int)] (fun v1 =>
  ∃ n : Int, v1 = .int .i64 n ∧ (
  ∃ J_ : Int → Heap → Prop, (
  iteB (k == (0 : Int)) (
  J_ (0 : Int) H1) (
  iteB (k == (1 : Int)) (
  letV (IntKind.i64.wrap ((2 : Int) + (n.tmod (7 : Int)))) (fun n1 : Int =>
  J_ n1 H1)) (
  ∃ J_1 : Bool → Heap → Prop, (
  iteB (k == (2 : Int)) (
  J_1 true H1) (
  J_1 ((n.tmod (8 : Int)) != (7 : Int)) H1)) ∧ (∀ x2 : Bool, ∀ H2 : Heap, J_1 x2 H2 → F_gen_bars_k1 n J_ x2 H2)))) ∧ (∀ n4 : Int, ∀ H3 : Heap, J_ n4 H3 → F_gen_bars_k2 most I_ M_ out i H1 k n4 H3)))))))))))) (
  R (.slice out.p out.n out.c) H1)) (
  R (.slice out.p out.n out.c) H1)

def F_gen_bars (R : Value → Heap → Prop) (l : Sl) (most : Int) (H : Heap) : Prop :=
  ∃ I_ : Sl → Int → Heap → Prop, ∃ M_ : Sl → Int → Heap → Nat, I_ (Sl.mk none 0 0) (0 : Int) H ∧ (∀ out : Sl, ∀ i : Int, ∀ H1 : Heap, I_ out i H1 → F_gen_bars_r3 R l most I_ M_ out i H1)

theorem F_gen_bars_eq (R : Value → Heap → Prop) (l : Sl) (most : Int) (H : Heap) : wpF Tryz.prog Tryz.f21 [(5, .slice none 0 0), (6, .int .i64 0), (8, .int .i64 0), (45, .bool false)] [(13, [8], [0, 1, 5, 6, 7]), (12, [45], [0, 1, 5, 6, 7, 8])] [(3, [5, 6], [0, 1])] [20] [.slice l.p l.n l.c, .int .i64 most] H R = F_gen_bars R l most H := by kernel_rfl

theorem F_gen_bars_ok {R : Value → Heap → Prop} (l : Sl) (most : Int) {H : Heap} (h : F_gen_bars R l most H) : CallsH Tryz.prog n_gen_bars #[.slice l.p l.n l.c, .int .i64 most] H R :=
  wpF_ok Tryz.func21 (F_gen_bars_eq R l most H) h

/-! ### 22: platformfw/enumerate.Valid -/

def F_enumerate_Valid_k1 (R : Value → Heap → Prop) (H : Heap) (I_ : Int → Heap → Prop) (M_ : Int → Heap → Nat) (x : Int) (H2 : Heap) (H6 : Heap) : Prop :=
  ∃ x29 : Int, rd H6 (⟨H2.size, 0, none⟩ : Addr) = some (.int .i64 x29) ∧ (
  ∃ x30 : Int, rd H6 ((⟨H2.size, 0, none⟩ : Addr).add 1) = some (.int .i64 x30) ∧ (
  letH (H6.push (.cells #[.int .i64 (0 : Int), .int .i64 (0 : Int)] t_enumerate_place (0, 0))) (fun H7 : Heap =>
  okRow H7 (⟨H6.size, 0, none⟩ : Addr) 2 ∧ (
  letH (wrs H7 (⟨H6.size, 0, none⟩ : Addr) [.int .i64 x29, .int .i64 x30]) (fun H8 : Heap =>
  ∃ x31 : Int, rd H8 (⟨H6.size, 0, none⟩ : Addr) = some (.int .i64 x31) ∧ ∃ x32 : Int, rd H8 ((⟨H6.size, 0, none⟩ : Addr).add 1) = some (.int .i64 x32) ∧ (
  runH Tryz.prog (Instr.lookup t_map_enumerate_place_bool (.map (some H.size)) (.agg #[.int .i64 x31, .int .i64 x32]) false) H8 (fun v1 H9 =>
  ∃ x33 : Bool, v1 = .bool x33 ∧ (
  iteB x33 (
  R (.bool false) H9) (
  ∃ x34 : Int, rd H9 (⟨H6.size, 0, none⟩ : Addr) = some (.int .i64 x34) ∧ ∃ x35 : Int, rd H9 ((⟨H6.size, 0, none⟩ : Addr).add 1) = some (.int .i64 x35) ∧ (
  runH Tryz.prog (Instr.mapUpdate t_map_enumerate_place_bool (.map (some H.size)) (.agg #[.int .i64 x34, .int .i64 x35]) (.bool true)) H9 (fun _ H10 =>
  I_ (IntKind.i64.wrap (x + (1 : Int))) H10 ∧ M_ (IntKind.i64.wrap (x + (1 : Int))) H10 < M_ x H2)))))))))))

def F_enumerate_Valid_r2 (R : Value → Heap → Prop) (H : Heap) (l : Sl) (I_ : Int → Heap → Prop) (M_ : Int → Heap → Nat) (x : Int) (H2 : Heap) : Prop :=
  iteB (decide (x < (l.n : Int))) (
  0 ≤ x ∧ x < (l.n : Int) ∧ (unSome l.p (fun a =>
  ∃ x1 : Int, rd H2 (a.add (x.toNat * 11)) = some (.int .i64 x1) ∧ ∃ x2 : Int, rd H2 ((a.add (x.toNat * 11)).add 1) = some (.int .i64 x2) ∧ ∃ x3 : Int, rd H2 ((a.add (x.toNat * 11)).add 2) = some (.int .i64 x3) ∧ ∃ x4 : Int, rd H2 ((a.add (x.toNat * 11)).add 3) = some (.int .i64 x4) ∧ ∃ x5 : Bool, rd H2 ((a.add (x.toNat * 11)).add 4) = some (.bool x5) ∧ ∃ x6 : Bool, rd H2 ((a.add (x.toNat * 11)).add 5) = some (.bool x6) ∧ ∃ x7 : Bool, rd H2 ((a.add (x.toNat * 11)).add 6) = some (.bool x7) ∧ ∃ x8 : Int, rd H2 ((a.add (x.toNat * 11)).add 7) = some (.int .i64 x8) ∧ ∃ x9 : Int, rd H2 ((a.add (x.toNat * 11)).add 8) = some (.int .i64 x9) ∧ ∃ x10 : Int, rd H2 ((a.add (x.toNat * 11)).add 9) = some (.int .i64 x10) ∧ ∃ x11 : Sl, rd H2 ((a.add (x.toNat * 11)).add 10) = some (.slice x11.p x11.n x11.c) ∧ (
  letH (H2.push (.cells #[.int .i64 (0 : Int), .int .i64 (0 : Int), .int .i64 (0 : Int), .int .i64 (0 : Int), .bool false, .bool false, .bool false, .int .i64 (0 : Int), .int .i64 (0 : Int), .int .i64 (0 : Int), .slice none 0 0] t_api_Function (0, 0))) (fun H3 : Heap =>
  okRow H3 (⟨H2.size, 0, none⟩ : Addr) 11 ∧ (
  letH (wrs H3 (⟨H2.size, 0, none⟩ : Addr) [.int .i64 x1, .int .i64 x2, .int .i64 x3, .int .i64 x4, .bool x5, .bool x6, .bool x7, .int .i64 x8, .int .i64 x9, .int .i64 x10, .slice x11.p x11.n x11.c]) (fun H4 : Heap =>
  ∃ x12 : Int, rd H4 (⟨H2.size, 0, none⟩ : Addr) = some (.int .i64 x12) ∧ ∃ x13 : Int, rd H4 ((⟨H2.size, 0, none⟩ : Addr).add 1) = some (.int .i64 x13) ∧ ∃ x14 : Int, rd H4 ((⟨H2.size, 0, none⟩ : Addr).add 2) = some (.int .i64 x14) ∧ ∃ x15 : Int, rd H4 ((⟨H2.size, 0, none⟩ : Addr).add 3) = some (.int .i64 x15) ∧ ∃ x16 : Bool, rd H4 ((⟨H2.size, 0, none⟩ : Addr).add 4) = some (.bool x16) ∧ ∃ x17 : Bool, rd H4 ((⟨H2.size, 0, none⟩ : Addr).add 5) = some (.bool x17) ∧ ∃ x18 : Bool, rd H4 ((⟨H2.size, 0, none⟩ : Addr).add 6) = some (.bool x18) ∧ ∃ x19 : Int, rd H4 ((⟨H2.size, 0, none⟩ : Addr).add 7) = some (.int .i64 x19) ∧ ∃ x20 : Int, rd H4 ((⟨H2.size, 0, none⟩ : Addr).add 8) = some (.int .i64 x20) ∧ ∃ x21 : Int, rd H4 ((⟨H2.size, 0, none⟩ : Addr).add 9) = some (.int .i64 x21) ∧ ∃ x22 : Sl, rd H4 ((⟨H2.size, 0, none⟩ : Addr).add 10) = some (.slice x22.p x22.n x22.c) ∧ (
  CallsH Tryz.prog n_pciconf_Valid #[.agg #[.int .i64 x12, .int .i64 x13, .int .i64 x14, .int .i64 x15, .bool x16, .bool x17, .bool x18, .int .i64 x19, .int .i64 x20, .int .i64 x21, .slice x22.p x22.n x22.c]] H4 (fun v H5 =>
  ∃ x23 : Bool, v = .bool x23 ∧ (
  iteB (!x23) (
  R (.bool false) H5) (
  ∃ x24 : Int, rd H5 (⟨H2.size, 0, none⟩ : Addr) = some (.int .i64 x24) ∧ (
  iteB (decide (x24 < (-1 : Int))) (
  R (.bool false) H5) (
  ∃ x25 : Int, rd H5 (⟨H2.size, 0, none⟩ : Addr) = some (.int .i64 x25) ∧ (
  iteB (decide (x25 ≥ x)) (
  R (.bool false) H5) (
  ∃ J_ : Heap → Prop, (
  ∃ x26 : Int, rd H5 (⟨H2.size, 0, none⟩ : Addr) = some (.int .i64 x26) ∧ (
  iteB (decide (x26 ≥ (0 : Int))) (
  ∃ x27 : Int, rd H5 (⟨H2.size, 0, none⟩ : Addr) = some (.int .i64 x27) ∧ (
  0 ≤ x27 ∧ x27 < (l.n : Int) ∧ (unSome l.p (fun a1 =>
  ∃ x28 : Bool, rd H5 ((a1.add (x27.toNat * 11)).add 4) = some (.bool x28) ∧ (
  iteB (!x28) (
  R (.bool false) H5) (
  J_ H5)))))) (
  J_ H5))) ∧ (∀ H6 : Heap, J_ H6 → F_enumerate_Valid_k1 R H I_ M_ x H2 H6)))))))))))))))) (
  R (.bool true) H2)

def F_enumerate_Valid (R : Value → Heap → Prop) (l : Sl) (H : Heap) : Prop :=
  iteB (decide ((l.n : Int) > (64 : Int))) (
  R (.bool false) H) (
  letH (H.push (.map #[] 0)) (fun H1 : Heap =>
  ∃ I_ : Int → Heap → Prop, ∃ M_ : Int → Heap → Nat, I_ (0 : Int) H1 ∧ (∀ x : Int, ∀ H2 : Heap, I_ x H2 → F_enumerate_Valid_r2 R H l I_ M_ x H2)))

theorem F_enumerate_Valid_eq (R : Value → Heap → Prop) (l : Sl) (H : Heap) : wpF Tryz.prog Tryz.f22 [(13, .int .i64 0)] [(11, [], [0, 3, 5, 11, 12, 13])] [(5, [13], [0, 3, 11, 12])] [20] [.slice l.p l.n l.c] H R = F_enumerate_Valid R l H := by kernel_rfl

theorem F_enumerate_Valid_ok {R : Value → Heap → Prop} (l : Sl) {H : Heap} (h : F_enumerate_Valid R l H) : CallsH Tryz.prog n_enumerate_Valid #[.slice l.p l.n l.c] H R :=
  wpF_ok Tryz.func22 (F_enumerate_Valid_eq R l H) h

/-! ### 23: platformfw/resources.Needs -/

def F_resources_Needs_r1 (R : Value → Heap → Prop) (l : Sl) (H2 : Heap) (I_ : Int → Heap → Prop) (M_ : Int → Heap → Nat) (i1 : Int) (H4 : Heap) (x7 : Sl) (I_1 : Int → Heap → Prop) (M_1 : Int → Heap → Nat) (x8 : Int) (H9 : Heap) : Prop :=
  iteB (decide (x8 < (x7.n : Int))) (
  0 ≤ x8 ∧ x8 < (x7.n : Int) ∧ (unSome x7.p (fun a =>
  ∃ x9 : Int, rd H9 (a.add (x8.toNat * 4)) = some (.int .i64 x9) ∧ ∃ x10 : Int, rd H9 ((a.add (x8.toNat * 4)).add 1) = some (.int .i64 x10) ∧ ∃ x11 : Int, rd H9 ((a.add (x8.toNat * 4)).add 2) = some (.int .i64 x11) ∧ ∃ x12 : Int, rd H9 ((a.add (x8.toNat * 4)).add 3) = some (.int .i64 x12) ∧ (
  letH (H9.push (.cells #[.int .i64 (0 : Int), .int .i64 (0 : Int), .int .i64 (0 : Int), .int .i64 (0 : Int)] t_api_Need (0, 0))) (fun H10 : Heap =>
  okRow H10 (⟨H9.size, 0, none⟩ : Addr) 4 ∧ (
  letH (wrs H10 (⟨H9.size, 0, none⟩ : Addr) [.int .i64 x9, .int .i64 x10, .int .i64 x11, .int .i64 x12]) (fun H11 : Heap =>
  ∃ x13 : Int, rd H11 ((⟨H9.size, 0, none⟩ : Addr).add 3) = some (.int .i64 x13) ∧ (
  ∃ x14 : Int, rd H11 ((⟨H9.size, 0, none⟩ : Addr).add 2) = some (.int .i64 x14) ∧ (
  CallsH Tryz.prog n_resources_largest #[.int .i64 x14] H11 (fun v4 H12 =>
  ∃ x15 : Int, v4 = .int .i64 x15 ∧ (
  Keeps H11 H12 [(((⟨H9.size, 0, none⟩ : Addr).add 3), 1)] ∧ (
  iteB (decide (x13 > x15)) (
  R (.tuple #[.slice none 0 0, .int .i64 (11 : Int)]) H12) (
  0 ≤ i1 ∧ i1 < (l.n : Int) ∧ (unSome l.p (fun a1 =>
  ∃ parent : Int, rd H12 (a1.add (i1.toNat * 11)) = some (.int .i64 parent) ∧ (
  iteB (decide (parent ≥ (0 : Int))) (
  ∃ x16 : Int, rd H12 ((⟨H9.size, 0, none⟩ : Addr).add 2) = some (.int .i64 x16) ∧ (
  ∃ x17 : Int, rd H12 ((⟨H9.size, 0, none⟩ : Addr).add 2) = some (.int .i64 x17) ∧ (
  0 ≤ parent ∧ parent < (((l.n : Int).toNat : Nat) : Int) ∧ (0 ≤ x17 ∧ x17 < ((3 : Nat) : Int) ∧ (∃ x18 : Sl, rd H12 (((⟨H2.size, 0, none⟩ : Addr).add (parent.toNat * 3)).add (x17.toNat * 1)) = some (.slice x18.p x18.n x18.c) ∧ (
  ∃ x19 : Int, rd H12 ((⟨H9.size, 0, none⟩ : Addr).add 3) = some (.int .i64 x19) ∧ (
  0 ≤ parent ∧ parent < (((l.n : Int).toNat : Nat) : Int) ∧ (letH (H12.push (.cells #[.int .i64 x19] t_int (0, 0))) (fun H13 : Heap =>
  Keeps H12 H13 [(((⟨H9.size, 0, none⟩ : Addr).add 2), 1), (((⟨H9.size, 0, none⟩ : Addr).add 2), 1), ((((⟨H2.size, 0, none⟩ : Addr).add (parent.toNat * 3)).add (x17.toNat * 1)), 1)] ∧ (
  runH Tryz.prog (Builtin.append_ #[t_sl_int, t_sl_int] t_sl_int #[.slice x18.p x18.n x18.c, .slice (some (⟨H12.size, 0, none⟩ : Addr)) 1 1]) H13 (fun v5 H14 =>
  ∃ x20 : Sl, v5 = .slice x20.p x20.n x20.c ∧ (
  Keeps H13 H14 [(((⟨H9.size, 0, none⟩ : Addr).add 2), 1)] ∧ (
  0 ≤ x16 ∧ x16 < ((3 : Nat) : Int) ∧ (okRow H14 (((⟨H2.size, 0, none⟩ : Addr).add (parent.toNat * 3)).add (x16.toNat * 1)) 1 ∧ (
  letH (wrs H14 (((⟨H2.size, 0, none⟩ : Addr).add (parent.toNat * 3)).add (x16.toNat * 1)) [.slice x20.p x20.n x20.c]) (fun H15 : Heap =>
  I_1 (IntKind.i64.wrap (x8 + (1 : Int))) H15 ∧ M_1 (IntKind.i64.wrap (x8 + (1 : Int))) H15 < M_1 x8 H9)))))))))))))))) (
  I_1 (IntKind.i64.wrap (x8 + (1 : Int))) H12 ∧ M_1 (IntKind.i64.wrap (x8 + (1 : Int))) H12 < M_1 x8 H9))))))))))))))))) (
  letV (IntKind.i64.wrap (i1 - (1 : Int))) (fun i2 : Int =>
  I_ i2 H9 ∧ M_ i2 H9 < M_ i1 H4))

def F_resources_Needs_r2 (R : Value → Heap → Prop) (l : Sl) (H1 : Heap) (I_2 : Sl → Int → Heap → Prop) (M_2 : Sl → Int → Heap → Nat) (needs : Sl) (x21 : Int) (H16 : Heap) : Prop :=
  iteB (decide (x21 < (((l.n : Int).toNat : Nat) : Int))) (
  0 ≤ x21 ∧ x21 < (((l.n : Int).toNat : Nat) : Int) ∧ (∃ part : Sl, rd H16 ((⟨H1.size, 0, none⟩ : Addr).add (x21.toNat * 1)) = some (.slice part.p part.n part.c) ∧ (
  runH Tryz.prog (Builtin.append_ #[t_sl_api_Need, t_sl_api_Need] t_sl_api_Need #[.slice needs.p needs.n needs.c, .slice part.p part.n part.c]) H16 (fun v6 H17 =>
  ∃ needs1 : Sl, v6 = .slice needs1.p needs1.n needs1.c ∧ (
  I_2 needs1 (IntKind.i64.wrap (x21 + (1 : Int))) H17 ∧ M_2 needs1 (IntKind.i64.wrap (x21 + (1 : Int))) H17 < M_2 needs x21 H16))))) (
  R (.tuple #[.slice needs.p needs.n needs.c, .int .i64 (0 : Int)]) H16)

def F_resources_Needs_r3 (R : Value → Heap → Prop) (l : Sl) (high : Bool) (H1 : Heap) (H2 : Heap) (I_ : Int → Heap → Prop) (M_ : Int → Heap → Nat) (i1 : Int) (H4 : Heap) : Prop :=
  iteB (decide (i1 ≥ (0 : Int))) (
  0 ≤ i1 ∧ i1 < (((l.n : Int).toNat : Nat) : Int) ∧ (∃ x1 : Sl, rd H4 ((⟨H2.size, 0, none⟩ : Addr).add (i1.toNat * 3)) = some (.slice x1.p x1.n x1.c) ∧ ∃ x2 : Sl, rd H4 (((⟨H2.size, 0, none⟩ : Addr).add (i1.toNat * 3)).add 1) = some (.slice x2.p x2.n x2.c) ∧ ∃ x3 : Sl, rd H4 (((⟨H2.size, 0, none⟩ : Addr).add (i1.toNat * 3)).add 2) = some (.slice x3.p x3.n x3.c) ∧ (
  CallsH Tryz.prog n_resources_registers #[.slice l.p l.n l.c, .bool high, .int .i64 i1] H4 (fun v1 H5 =>
  ∃ x4 : Sl, v1 = .slice x4.p x4.n x4.c ∧ (
  Keeps H4 H5 [(((⟨H2.size, 0, none⟩ : Addr).add (i1.toNat * 3)), 3)] ∧ (
  CallsH Tryz.prog n_resources_windows #[.slice l.p l.n l.c, .bool high, .int .i64 i1, .agg #[.slice x1.p x1.n x1.c, .slice x2.p x2.n x2.c, .slice x3.p x3.n x3.c]] H5 (fun v2 H6 =>
  ∃ x5 : Sl, v2 = .slice x5.p x5.n x5.c ∧ (
  runH Tryz.prog (Builtin.append_ #[t_sl_api_Need, t_sl_api_Need] t_sl_api_Need #[.slice x4.p x4.n x4.c, .slice x5.p x5.n x5.c]) H6 (fun v3 H7 =>
  ∃ x6 : Sl, v3 = .slice x6.p x6.n x6.c ∧ (
  0 ≤ i1 ∧ i1 < (((l.n : Int).toNat : Nat) : Int) ∧ (okRow H7 ((⟨H1.size, 0, none⟩ : Addr).add (i1.toNat * 1)) 1 ∧ (
  letH (wrs H7 ((⟨H1.size, 0, none⟩ : Addr).add (i1.toNat * 1)) [.slice x6.p x6.n x6.c]) (fun H8 : Heap =>
  0 ≤ i1 ∧ i1 < (((l.n : Int).toNat : Nat) : Int) ∧ (∃ x7 : Sl, rd H8 ((⟨H1.size, 0, none⟩ : Addr).add (i1.toNat * 1)) = some (.slice x7.p x7.n x7.c) ∧ (
  ∃ I_1 : Int → Heap → Prop, ∃ M_1 : Int → Heap → Nat, I_1 (0 : Int) H8 ∧ (∀ x8 : Int, ∀ H9 : Heap, I_1 x8 H9 → F_resources_Needs_r1 R l H2 I_ M_ i1 H4 x7 I_1 M_1 x8 H9)))))))))))))))) (
  ∃ I_2 : Sl → Int → Heap → Prop, ∃ M_2 : Sl → Int → Heap → Nat, I_2 (Sl.mk none 0 0) (0 : Int) H4 ∧ (∀ needs : Sl, ∀ x21 : Int, ∀ H16 : Heap, I_2 needs x21 H16 → F_resources_Needs_r2 R l H1 I_2 M_2 needs x21 H16))

def F_resources_Needs (R : Value → Heap → Prop) (l : Sl) (high : Bool) (H : Heap) : Prop :=
  CallsH Tryz.prog n_enumerate_Valid #[.slice l.p l.n l.c] H (fun v H1 =>
  ∃ x : Bool, v = .bool x ∧ (
  iteB (!x) (
  R (.tuple #[.slice none 0 0, .int .i64 (1 : Int)]) H1) (
  0 ≤ (l.n : Int) ∧ (l.n : Int) ≤ (l.n : Int) ∧ (l.n : Int) * ((24 : Nat) : Int) ≤ 281474976710656 ∧ (
  letH (H1.push (.cells (zeroRow (.slice none 0 0) (l.n : Int).toNat) t_sl_api_Need (0, 0))) (fun H2 : Heap =>
  0 ≤ (l.n : Int) ∧ (l.n : Int) ≤ (l.n : Int) ∧ (l.n : Int) * ((72 : Nat) : Int) ≤ 281474976710656 ∧ (
  letH (H2.push (.cells (zeroRow (.agg #[.slice none 0 0, .slice none 0 0, .slice none 0 0]) (l.n : Int).toNat) t_3_sl_int (0, 0))) (fun H3 : Heap =>
  letV (IntKind.i64.wrap ((l.n : Int) - (1 : Int))) (fun i : Int =>
  ∃ I_ : Int → Heap → Prop, ∃ M_ : Int → Heap → Nat, I_ i H3 ∧ (∀ i1 : Int, ∀ H4 : Heap, I_ i1 H4 → F_resources_Needs_r3 R l high H1 H2 I_ M_ i1 H4)))))))))

theorem F_resources_Needs_eq (R : Value → Heap → Prop) (l : Sl) (high : Bool) (H : Heap) : wpF Tryz.prog Tryz.f23 [(8, .int .i64 0), (12, .slice none 0 0), (52, .int .i64 0), (89, .int .i64 0)] [] [(6, [8], [0, 1, 6, 7]), (10, [52], [0, 1, 6, 7, 8, 50, 51]), (20, [12, 89], [87, 88])] [20] [.slice l.p l.n l.c, .bool high] H R = F_resources_Needs R l high H := by kernel_rfl

theorem F_resources_Needs_ok {R : Value → Heap → Prop} (l : Sl) (high : Bool) {H : Heap} (h : F_resources_Needs R l high H) : CallsH Tryz.prog n_resources_Needs #[.slice l.p l.n l.c, .bool high] H R :=
  wpF_ok Tryz.func23 (F_resources_Needs_eq R l high H) h

/-! ### 24: platformfw/allocate.hostFree -/

/-! ### 25: platformfw/allocate.window -/

def F_allocate_window_k1 (R : Value → Heap → Prop) (I_ : Int → Heap → Prop) (M_ : Int → Heap → Nat) (x : Int) (H1 : Heap) (x8 : Bool) (H4 : Heap) : Prop :=
  iteB x8 (
  ∃ x9 : Int, rd H4 ((⟨H1.size, 0, none⟩ : Addr).add 4) = some (.int .u64 x9) ∧ (
  ∃ x10 : Int, rd H4 ((⟨H1.size, 0, none⟩ : Addr).add 3) = some (.int .i64 x10) ∧ (
  0 ≤ x10 ∧ (
  letV (IntKind.u64.wrap ((1 : Int) * 2 ^ (min x10.toNat IntKind.u64.bits))) (fun x11 : Int =>
  R (.tuple #[.int .u64 x9, .int .u64 x11, .bool true]) H4))))) (
  I_ (IntKind.i64.wrap (x + (1 : Int))) H4 ∧ M_ (IntKind.i64.wrap (x + (1 : Int))) H4 < M_ x H1)

def F_allocate_window_r2 (R : Value → Heap → Prop) (a : Sl) (bridge : Int) (classv : Int) (I_ : Int → Heap → Prop) (M_ : Int → Heap → Nat) (x : Int) (H1 : Heap) : Prop :=
  iteB (decide (x < (a.n : Int))) (
  0 ≤ x ∧ x < (a.n : Int) ∧ (unSome a.p (fun a1 =>
  ∃ x1 : Int, rd H1 (a1.add (x.toNat * 5)) = some (.int .i64 x1) ∧ ∃ x2 : Int, rd H1 ((a1.add (x.toNat * 5)).add 1) = some (.int .i64 x2) ∧ ∃ x3 : Int, rd H1 ((a1.add (x.toNat * 5)).add 2) = some (.int .i64 x3) ∧ ∃ x4 : Int, rd H1 ((a1.add (x.toNat * 5)).add 3) = some (.int .i64 x4) ∧ ∃ x5 : Int, rd H1 ((a1.add (x.toNat * 5)).add 4) = some (.int .u64 x5) ∧ (
  letH (H1.push (.cells #[.int .i64 (0 : Int), .int .i64 (0 : Int), .int .i64 (0 : Int), .int .i64 (0 : Int), .int .u64 (0 : Int)] t_api_Assignment (0, 0))) (fun H2 : Heap =>
  okRow H2 (⟨H1.size, 0, none⟩ : Addr) 5 ∧ (
  letH (wrs H2 (⟨H1.size, 0, none⟩ : Addr) [.int .i64 x1, .int .i64 x2, .int .i64 x3, .int .i64 x4, .int .u64 x5]) (fun H3 : Heap =>
  ∃ J_ : Bool → Heap → Prop, (
  ∃ x6 : Int, rd H3 (⟨H1.size, 0, none⟩ : Addr) = some (.int .i64 x6) ∧ (
  iteB (x6 == bridge) (
  ∃ x7 : Int, rd H3 ((⟨H1.size, 0, none⟩ : Addr).add 1) = some (.int .i64 x7) ∧ (
  J_ (x7 == (IntKind.i64.wrap ((-1 : Int) - classv))) H3)) (
  J_ false H3))) ∧ (∀ x8 : Bool, ∀ H4 : Heap, J_ x8 H4 → F_allocate_window_k1 R I_ M_ x H1 x8 H4)))))))) (
  R (.tuple #[.int .u64 (0 : Int), .int .u64 (0 : Int), .bool false]) H1)

def F_allocate_window (R : Value → Heap → Prop) (a : Sl) (bridge : Int) (classv : Int) (H : Heap) : Prop :=
  ∃ I_ : Int → Heap → Prop, ∃ M_ : Int → Heap → Nat, I_ (0 : Int) H ∧ (∀ x : Int, ∀ H1 : Heap, I_ x H1 → F_allocate_window_r2 R a bridge classv I_ M_ x H1)

theorem F_allocate_window_eq (R : Value → Heap → Prop) (a : Sl) (bridge : Int) (classv : Int) (H : Heap) : wpF Tryz.prog Tryz.f25 [(13, .int .i64 0), (29, .bool false)] [(5, [29], [1, 2, 10, 11, 12, 13])] [(2, [13], [1, 2, 11, 12])] [20] [.slice a.p a.n a.c, .int .i64 bridge, .int .i64 classv] H R = F_allocate_window R a bridge classv H := by kernel_rfl

theorem F_allocate_window_ok {R : Value → Heap → Prop} (a : Sl) (bridge : Int) (classv : Int) {H : Heap} (h : F_allocate_window R a bridge classv H) : CallsH Tryz.prog n_allocate_window #[.slice a.p a.n a.c, .int .i64 bridge, .int .i64 classv] H R :=
  wpF_ok Tryz.func25 (F_allocate_window_eq R a bridge classv H) h

/-! ### 26: platformfw/allocate.placeBelow -/

/-! ### 27: platformfw/platformfwref18.Valid -/

def F_ref18_Valid_r1 (R : Value → Heap → Prop) (l : Sl) (I_ : Int → Heap → Prop) (M_ : Int → Heap → Nat) (i : Int) (H1 : Heap) (I_1 : Int → Heap → Prop) (M_1 : Int → Heap → Nat) (k : Int) (H4 : Heap) : Prop :=
  iteB (decide (k < i)) (
  0 ≤ k ∧ k < (l.n : Int) ∧ (unSome l.p (fun a6 =>
  ∃ x17 : Int, rd H4 (a6.add (k.toNat * 11)) = some (.int .i64 x17) ∧ (
  0 ≤ i ∧ i < (l.n : Int) ∧ (unSome l.p (fun a7 =>
  ∃ x18 : Int, rd H4 (a7.add (i.toNat * 11)) = some (.int .i64 x18) ∧ (
  iteB (x17 == x18) (
  0 ≤ k ∧ k < (l.n : Int) ∧ (unSome l.p (fun a8 =>
  ∃ x19 : Int, rd H4 ((a8.add (k.toNat * 11)).add 1) = some (.int .i64 x19) ∧ (
  0 ≤ i ∧ i < (l.n : Int) ∧ (unSome l.p (fun a9 =>
  ∃ x20 : Int, rd H4 ((a9.add (i.toNat * 11)).add 1) = some (.int .i64 x20) ∧ (
  iteB (x19 == x20) (
  R (.bool false) H4) (
  letV (IntKind.i64.wrap (k + (1 : Int))) (fun k1 : Int =>
  I_1 k1 H4 ∧ M_1 k1 H4 < M_1 k H4))))))))) (
  letV (IntKind.i64.wrap (k + (1 : Int))) (fun k2 : Int =>
  I_1 k2 H4 ∧ M_1 k2 H4 < M_1 k H4))))))))) (
  letV (IntKind.i64.wrap (i + (1 : Int))) (fun i1 : Int =>
  I_ i1 H4 ∧ M_ i1 H4 < M_ i H1))

def F_ref18_Valid_k2 (R : Value → Heap → Prop) (l : Sl) (I_ : Int → Heap → Prop) (M_ : Int → Heap → Nat) (i : Int) (H1 : Heap) (H3 : Heap) : Prop :=
  ∃ I_1 : Int → Heap → Prop, ∃ M_1 : Int → Heap → Nat, I_1 (0 : Int) H3 ∧ (∀ k : Int, ∀ H4 : Heap, I_1 k H4 → F_ref18_Valid_r1 R l I_ M_ i H1 I_1 M_1 k H4)

def F_ref18_Valid_r3 (R : Value → Heap → Prop) (l : Sl) (I_ : Int → Heap → Prop) (M_ : Int → Heap → Nat) (i : Int) (H1 : Heap) : Prop :=
  iteB (decide (i < (l.n : Int))) (
  ∃ J_ : Heap → Prop, (
  0 ≤ i ∧ i < (l.n : Int) ∧ (unSome l.p (fun a =>
  ∃ x : Int, rd H1 (a.add (i.toNat * 11)) = some (.int .i64 x) ∧ ∃ x1 : Int, rd H1 ((a.add (i.toNat * 11)).add 1) = some (.int .i64 x1) ∧ ∃ x2 : Int, rd H1 ((a.add (i.toNat * 11)).add 2) = some (.int .i64 x2) ∧ ∃ x3 : Int, rd H1 ((a.add (i.toNat * 11)).add 3) = some (.int .i64 x3) ∧ ∃ x4 : Bool, rd H1 ((a.add (i.toNat * 11)).add 4) = some (.bool x4) ∧ ∃ x5 : Bool, rd H1 ((a.add (i.toNat * 11)).add 5) = some (.bool x5) ∧ ∃ x6 : Bool, rd H1 ((a.add (i.toNat * 11)).add 6) = some (.bool x6) ∧ ∃ x7 : Int, rd H1 ((a.add (i.toNat * 11)).add 7) = some (.int .i64 x7) ∧ ∃ x8 : Int, rd H1 ((a.add (i.toNat * 11)).add 8) = some (.int .i64 x8) ∧ ∃ x9 : Int, rd H1 ((a.add (i.toNat * 11)).add 9) = some (.int .i64 x9) ∧ ∃ x10 : Sl, rd H1 ((a.add (i.toNat * 11)).add 10) = some (.slice x10.p x10.n x10.c) ∧ (
  CallsH Tryz.prog n_ref18_ValidFunction #[.agg #[.int .i64 x, .int .i64 x1, .int .i64 x2, .int .i64 x3, .bool x4, .bool x5, .bool x6, .int .i64 x7, .int .i64 x8, .int .i64 x9, .slice x10.p x10.n x10.c]] H1 (fun v H2 =>
  ∃ x11 : Bool, v = .bool x11 ∧ (
  iteB (!x11) (
  R (.bool false) H2) (
  0 ≤ i ∧ i < (l.n : Int) ∧ (unSome l.p (fun a1 =>
  ∃ x12 : Int, rd H2 (a1.add (i.toNat * 11)) = some (.int .i64 x12) ∧ (
  iteB (decide (x12 < (-1 : Int))) (
  R (.bool false) H2) (
  0 ≤ i ∧ i < (l.n : Int) ∧ (unSome l.p (fun a2 =>
  ∃ x13 : Int, rd H2 (a2.add (i.toNat * 11)) = some (.int .i64 x13) ∧ (
  iteB (decide (x13 ≥ i)) (
  R (.bool false) H2) (
  0 ≤ i ∧ i < (l.n : Int) ∧ (unSome l.p (fun a3 =>
  ∃ x14 : Int, rd H2 (a3.add (i.toNat * 11)) = some (.int .i64 x14) ∧ (
  iteB (decide (x14 ≥ (0 : Int))) (
  0 ≤ i ∧ i < (l.n : Int) ∧ (unSome l.p (fun a4 =>
  ∃ x15 : Int, rd H2 (a4.add (i.toNat * 11)) = some (.int .i64 x15) ∧ (
  0 ≤ x15 ∧ x15 < (l.n : Int) ∧ (unSome l.p (fun a5 =>
  ∃ x16 : Bool, rd H2 ((a5.add (x15.toNat * 11)).add 4) = some (.bool x16) ∧ (
  iteB (!x16) (
  R (.bool false) H2) (
  J_ H2)))))))) (
  J_ H2))))))))))))))))))) ∧ (∀ H3 : Heap, J_ H3 → F_ref18_Valid_k2 R l I_ M_ i H1 H3)) (
  R (.bool true) H1)

def F_ref18_Valid (R : Value → Heap → Prop) (l : Sl) (H : Heap) : Prop :=
  iteB (decide ((l.n : Int) > (64 : Int))) (
  R (.bool false) H) (
  ∃ I_ : Int → Heap → Prop, ∃ M_ : Int → Heap → Nat, I_ (0 : Int) H ∧ (∀ i : Int, ∀ H1 : Heap, I_ i H1 → F_ref18_Valid_r3 R l I_ M_ i H1))

theorem F_ref18_Valid_eq (R : Value → Heap → Prop) (l : Sl) (H : Heap) : wpF Tryz.prog Tryz.f27 [(3, .int .i64 0), (4, .int .i64 0)] [(8, [], [0, 3])] [(4, [3], [0]), (9, [4], [0, 3])] [20] [.slice l.p l.n l.c] H R = F_ref18_Valid R l H := by kernel_rfl

theorem F_ref18_Valid_ok {R : Value → Heap → Prop} (l : Sl) {H : Heap} (h : F_ref18_Valid R l H) : CallsH Tryz.prog n_ref18_Valid #[.slice l.p l.n l.c] H R :=
  wpF_ok Tryz.func27 (F_ref18_Valid_eq R l H) h

/-! ### 28: platformfw/platformfwref18.Needs -/

def F_ref18_Needs_r1 (l : Sl) (high : Bool) (all : Sl) (i1 : Int) (J_ : Sl → Heap → Prop) (I_2 : Sl → Int → Heap → Prop) (M_2 : Sl → Int → Heap → Nat) (own2 : Sl) (c : Int) (H7 : Heap) : Prop :=
  0 ≤ i1 ∧ i1 < (l.n : Int) ∧ (unSome l.p (fun a3 =>
  ∃ x6 : Bool, rd H7 ((a3.add (i1.toNat * 11)).add 4) = some (.bool x6) ∧ (
  iteB x6 (
  iteB (decide (c < (3 : Int))) (
  CallsH Tryz.prog n_ref18_window #[.slice l.p l.n l.c, .bool high, .int .i64 i1, .int .i64 c, .slice all.p all.n all.c] H7 (fun v3 H8 =>
  ∃ x7 : Int, ∃ x8 : Bool, v3 = .tuple #[.int .i64 x7, .bool x8] ∧ (
  iteB x8 (
  letH (H8.push (.cells #[.int .i64 i1, .int .i64 (IntKind.i64.wrap ((-1 : Int) - c)), .int .i64 c, .int .i64 x7] t_api_Need (0, 0))) (fun H9 : Heap =>
  runH Tryz.prog (Builtin.append_ #[t_sl_api_Need, t_sl_api_Need] t_sl_api_Need #[.slice own2.p own2.n own2.c, .slice (some (⟨H8.size, 0, none⟩ : Addr)) 1 1]) H9 (fun v4 H10 =>
  ∃ own3 : Sl, v4 = .slice own3.p own3.n own3.c ∧ (
  letV (IntKind.i64.wrap (c + (1 : Int))) (fun c1 : Int =>
  I_2 own3 c1 H10 ∧ M_2 own3 c1 H10 < M_2 own2 c H7))))) (
  letV (IntKind.i64.wrap (c + (1 : Int))) (fun c2 : Int =>
  I_2 own2 c2 H8 ∧ M_2 own2 c2 H8 < M_2 own2 c H7))))) (
  J_ own2 H7)) (
  J_ own2 H7))))

def F_ref18_Needs_r2 (R : Value → Heap → Prop) (I_ : Sl → Bool → Int → Heap → Prop) (M_ : Sl → Bool → Int → Heap → Nat) (all : Sl) (bad : Bool) (i1 : Int) (H2 : Heap) (own4 : Sl) (I_3 : Bool → Int → Heap → Prop) (M_3 : Bool → Int → Heap → Nat) (bad1 : Bool) (k3 : Int) (H12 : Heap) : Prop :=
  iteB (decide (k3 < (own4.n : Int))) (
  0 ≤ k3 ∧ k3 < (own4.n : Int) ∧ (unSome own4.p (fun a4 =>
  ∃ x9 : Int, rd H12 ((a4.add (k3.toNat * 4)).add 2) = some (.int .i64 x9) ∧ (
  0 ≤ x9 ∧ x9 < ((3 : Nat) : Int) ∧ (iteB (x9 == (0 : Int)) (
  iteB bad1 (
  letV (IntKind.i64.wrap (k3 + (1 : Int))) (fun k4 : Int =>
  I_3 true k4 H12 ∧ M_3 true k4 H12 < M_3 bad1 k3 H12)) (
  0 ≤ k3 ∧ k3 < (own4.n : Int) ∧ (unSome own4.p (fun a5 =>
  ∃ x10 : Int, rd H12 ((a5.add (k3.toNat * 4)).add 3) = some (.int .i64 x10) ∧ (
  letV (IntKind.i64.wrap (k3 + (1 : Int))) (fun k5 : Int =>
  I_3 (decide (x10 > (15 : Int))) k5 H12 ∧ M_3 (decide (x10 > (15 : Int))) k5 H12 < M_3 bad1 k3 H12)))))) (
  iteB (x9 == (1 : Int)) (
  iteB bad1 (
  letV (IntKind.i64.wrap (k3 + (1 : Int))) (fun k6 : Int =>
  I_3 true k6 H12 ∧ M_3 true k6 H12 < M_3 bad1 k3 H12)) (
  0 ≤ k3 ∧ k3 < (own4.n : Int) ∧ (unSome own4.p (fun a6 =>
  ∃ x11 : Int, rd H12 ((a6.add (k3.toNat * 4)).add 3) = some (.int .i64 x11) ∧ (
  letV (IntKind.i64.wrap (k3 + (1 : Int))) (fun k7 : Int =>
  I_3 (decide (x11 > (31 : Int))) k7 H12 ∧ M_3 (decide (x11 > (31 : Int))) k7 H12 < M_3 bad1 k3 H12)))))) (
  iteB (x9 == (2 : Int)) (
  iteB bad1 (
  letV (IntKind.i64.wrap (k3 + (1 : Int))) (fun k8 : Int =>
  I_3 true k8 H12 ∧ M_3 true k8 H12 < M_3 bad1 k3 H12)) (
  0 ≤ k3 ∧ k3 < (own4.n : Int) ∧ (unSome own4.p (fun a7 =>
  ∃ x12 : Int, rd H12 ((a7.add (k3.toNat * 4)).add 3) = some (.int .i64 x12) ∧ (
  letV (IntKind.i64.wrap (k3 + (1 : Int))) (fun k9 : Int =>
  I_3 (decide (x12 > (44 : Int))) k9 H12 ∧ M_3 (decide (x12 > (44 : Int))) k9 H12 < M_3 bad1 k3 H12)))))) (
  False)))))))) (
  iteB bad1 (
  R (.tuple #[.slice none 0 0, .int .i64 (11 : Int)]) H12) (
  runH Tryz.prog (Builtin.append_ #[t_sl_api_Need, t_sl_api_Need] t_sl_api_Need #[.slice own4.p own4.n own4.c, .slice all.p all.n all.c]) H12 (fun v5 H13 =>
  ∃ all1 : Sl, v5 = .slice all1.p all1.n all1.c ∧ (
  letV (IntKind.i64.wrap (i1 - (1 : Int))) (fun i2 : Int =>
  I_ all1 bad1 i2 H13 ∧ M_ all1 bad1 i2 H13 < M_ all bad i1 H2)))))

def F_ref18_Needs_k3 (R : Value → Heap → Prop) (I_ : Sl → Bool → Int → Heap → Prop) (M_ : Sl → Bool → Int → Heap → Nat) (all : Sl) (bad : Bool) (i1 : Int) (H2 : Heap) (own4 : Sl) (H11 : Heap) : Prop :=
  ∃ I_3 : Bool → Int → Heap → Prop, ∃ M_3 : Bool → Int → Heap → Nat, I_3 bad (0 : Int) H11 ∧ (∀ bad1 : Bool, ∀ k3 : Int, ∀ H12 : Heap, I_3 bad1 k3 H12 → F_ref18_Needs_r2 R I_ M_ all bad i1 H2 own4 I_3 M_3 bad1 k3 H12)

def F_ref18_Needs_r4 (R : Value → Heap → Prop) (l : Sl) (high : Bool) (I_ : Sl → Bool → Int → Heap → Prop) (M_ : Sl → Bool → Int → Heap → Nat) (all : Sl) (bad : Bool) (i1 : Int) (H2 : Heap) (I_1 : Sl → Int → Heap → Prop) (M_1 : Sl → Int → Heap → Nat) (own : Sl) (k : Int) (H3 : Heap) : Prop :=
  0 ≤ i1 ∧ i1 < (l.n : Int) ∧ (unSome l.p (fun a =>
  ∃ x1 : Sl, rd H3 ((a.add (i1.toNat * 11)).add 10) = some (.slice x1.p x1.n x1.c) ∧ (
  iteB (decide (k < (x1.n : Int))) (
  CallsH Tryz.prog n_ref18_Class #[.slice l.p l.n l.c, .bool high, .int .i64 i1, .int .i64 k] H3 (fun v1 H4 =>
  ∃ x2 : Int, ∃ x3 : Bool, v1 = .tuple #[.int .i64 x2, .bool x3] ∧ (
  iteB x3 (
  0 ≤ i1 ∧ i1 < (l.n : Int) ∧ (unSome l.p (fun a1 =>
  ∃ x4 : Sl, rd H4 ((a1.add (i1.toNat * 11)).add 10) = some (.slice x4.p x4.n x4.c) ∧ (
  0 ≤ k ∧ k < (x4.n : Int) ∧ (unSome x4.p (fun a2 =>
  ∃ x5 : Int, rd H4 ((a2.add (k.toNat * 2)).add 1) = some (.int .i64 x5) ∧ (
  letH (H4.push (.cells #[.int .i64 i1, .int .i64 k, .int .i64 x2, .int .i64 x5] t_api_Need (0, 0))) (fun H5 : Heap =>
  runH Tryz.prog (Builtin.append_ #[t_sl_api_Need, t_sl_api_Need] t_sl_api_Need #[.slice own.p own.n own.c, .slice (some (⟨H4.size, 0, none⟩ : Addr)) 1 1]) H5 (fun v2 H6 =>
  ∃ own1 : Sl, v2 = .slice own1.p own1.n own1.c ∧ (
  letV (IntKind.i64.wrap (k + (1 : Int))) (fun k1 : Int =>
  I_1 own1 k1 H6 ∧ M_1 own1 k1 H6 < M_1 own k H3))))))))))) (
  letV (IntKind.i64.wrap (k + (1 : Int))) (fun k2 : Int =>
  I_1 own k2 H4 ∧ M_1 own k2 H4 < M_1 own k H3))))) (
  ∃ J_ : Sl → Heap → Prop, (
  ∃ I_2 : Sl → Int → Heap → Prop, ∃ M_2 : Sl → Int → Heap → Nat, I_2 own (0 : Int) H3 ∧ (∀ own2 : Sl, ∀ c : Int, ∀ H7 : Heap, I_2 own2 c H7 → F_ref18_Needs_r1 l high all i1 J_ I_2 M_2 own2 c H7)) ∧ (∀ own4 : Sl, ∀ H11 : Heap, J_ own4 H11 → F_ref18_Needs_k3 R I_ M_ all bad i1 H2 own4 H11)))))

def F_ref18_Needs_r5 (R : Value → Heap → Prop) (l : Sl) (high : Bool) (I_ : Sl → Bool → Int → Heap → Prop) (M_ : Sl → Bool → Int → Heap → Nat) (all : Sl) (bad : Bool) (i1 : Int) (H2 : Heap) : Prop :=
  iteB (decide (i1 ≥ (0 : Int))) (
  ∃ I_1 : Sl → Int → Heap → Prop, ∃ M_1 : Sl → Int → Heap → Nat, I_1 (Sl.mk none 0 0) (0 : Int) H2 ∧ (∀ own : Sl, ∀ k : Int, ∀ H3 : Heap, I_1 own k H3 → F_ref18_Needs_r4 R l high I_ M_ all bad i1 H2 I_1 M_1 own k H3)) (
  R (.tuple #[.slice all.p all.n all.c, .int .i64 (0 : Int)]) H2)

def F_ref18_Needs (R : Value → Heap → Prop) (l : Sl) (high : Bool) (H : Heap) : Prop :=
  CallsH Tryz.prog n_ref18_Valid #[.slice l.p l.n l.c] H (fun v H1 =>
  ∃ x : Bool, v = .bool x ∧ (
  iteB (!x) (
  R (.tuple #[.slice none 0 0, .int .i64 (1 : Int)]) H1) (
  letV (IntKind.i64.wrap ((l.n : Int) - (1 : Int))) (fun i : Int =>
  ∃ I_ : Sl → Bool → Int → Heap → Prop, ∃ M_ : Sl → Bool → Int → Heap → Nat, I_ (Sl.mk none 0 0) false i H1 ∧ (∀ all : Sl, ∀ bad : Bool, ∀ i1 : Int, ∀ H2 : Heap, I_ all bad i1 H2 → F_ref18_Needs_r5 R l high I_ M_ all bad i1 H2)))))

theorem F_ref18_Needs_eq (R : Value → Heap → Prop) (l : Sl) (high : Bool) (H : Heap) : wpF Tryz.prog Tryz.f28 [(6, .slice none 0 0), (7, .bool false), (8, .int .i64 0), (9, .slice none 0 0), (10, .int .i64 0), (13, .int .i64 0), (16, .int .i64 0)] [(21, [9], [0, 1, 6, 7, 8])] [(6, [6, 7, 8], [0, 1]), (10, [9, 10], [0, 1, 6, 7, 8]), (16, [9, 13], [0, 1, 6, 7, 8]), (22, [7, 16], [0, 1, 6, 8, 9])] [20] [.slice l.p l.n l.c, .bool high] H R = F_ref18_Needs R l high H := by kernel_rfl

theorem F_ref18_Needs_ok {R : Value → Heap → Prop} (l : Sl) (high : Bool) {H : Heap} (h : F_ref18_Needs R l high H) : CallsH Tryz.prog n_ref18_Needs #[.slice l.p l.n l.c, .bool high] H R :=
  wpF_ok Tryz.func28 (F_ref18_Needs_eq R l high H) h

/-! ### 29: platformfw/platformfwref21.place -/

def F_ref21_place_r1 (R : Value → Heap → Prop) (H : Heap) (a : Sl) (below : Sl) (H6 : Heap) (x1 : Sl) (x6 : Int) (I_1 : Int → Heap → Prop) (M_1 : Int → Heap → Nat) (i2 : Int) (H10 : Heap) : Prop :=
  iteB (decide (i2 < (x1.n : Int))) (
  0 ≤ i2 ∧ i2 < (below.n : Int) ∧ (unSome below.p (fun a2 =>
  ∃ x7 : Int, rd H10 (a2.add (i2.toNat * 4)) = some (.int .i64 x7) ∧ (
  0 ≤ i2 ∧ i2 < (below.n : Int) ∧ (unSome below.p (fun a3 =>
  ∃ x8 : Int, rd H10 ((a3.add (i2.toNat * 4)).add 1) = some (.int .i64 x8) ∧ (
  0 ≤ i2 ∧ i2 < (x1.n : Int) ∧ (unSome x1.p (fun a4 =>
  ∃ x9 : Int, rd H10 (a4.add (i2.toNat * 1)) = some (.int .u64 x9) ∧ (
  CallsH Tryz.prog n_ref21_at #[.slice a.p a.n a.c, .int .i64 x7, .int .i64 x8] H10 (fun v3 H11 =>
  ∃ x10 : Int, v3 = .int .i64 x10 ∧ (
  Keeps H10 H11 [((a4.add (i2.toNat * 1)), 1)] ∧ (
  0 ≤ x10 ∧ x10 < (a.n : Int) ∧ (unSome a.p (fun a5 =>
  okRow H11 ((a5.add (x10.toNat * 5)).add 4) 1 ∧ (
  letH (wrs H11 ((a5.add (x10.toNat * 5)).add 4) [.int .u64 x9]) (fun H12 : Heap =>
  letV (IntKind.i64.wrap (i2 + (1 : Int))) (fun i3 : Int =>
  I_1 i3 H12 ∧ M_1 i3 H12 < M_1 i2 H10)))))))))))))))))) (
  iteB (x6 == (0 : Int)) (
  okRow H10 (⟨H6.size, 0, none⟩ : Addr) 4 ∧ (
  letH (wrs H10 (⟨H6.size, 0, none⟩ : Addr) [.int .i64 (0 : Int), .int .i64 (0 : Int), .int .u64 (0 : Int), .int .u64 (0 : Int)]) (fun H13 : Heap =>
  ∃ x11 : Int, rd H13 (⟨H6.size, 0, none⟩ : Addr) = some (.int .i64 x11) ∧ ∃ x12 : Int, rd H13 ((⟨H6.size, 0, none⟩ : Addr).add 1) = some (.int .i64 x12) ∧ ∃ x13 : Int, rd H13 ((⟨H6.size, 0, none⟩ : Addr).add 2) = some (.int .u64 x13) ∧ ∃ x14 : Int, rd H13 ((⟨H6.size, 0, none⟩ : Addr).add 3) = some (.int .u64 x14) ∧ (
  okRow H13 (⟨H.size, 0, none⟩ : Addr) 4 ∧ (
  letH (wrs H13 (⟨H.size, 0, none⟩ : Addr) [.int .i64 x11, .int .i64 x12, .int .u64 x13, .int .u64 x14]) (fun H14 : Heap =>
  ∃ r : Int, rd H14 (⟨H.size, 0, none⟩ : Addr) = some (.int .i64 r) ∧ ∃ r1 : Int, rd H14 ((⟨H.size, 0, none⟩ : Addr).add 1) = some (.int .i64 r1) ∧ ∃ r2 : Int, rd H14 ((⟨H.size, 0, none⟩ : Addr).add 2) = some (.int .u64 r2) ∧ ∃ r3 : Int, rd H14 ((⟨H.size, 0, none⟩ : Addr).add 3) = some (.int .u64 r3) ∧ (
  R (.tuple #[.agg #[.int .i64 r, .int .i64 r1, .int .u64 r2, .int .u64 r3], .int .i64 x6]) H14))))))) (
  ∃ x15 : Int, rd H10 (⟨H6.size, 0, none⟩ : Addr) = some (.int .i64 x15) ∧ ∃ x16 : Int, rd H10 ((⟨H6.size, 0, none⟩ : Addr).add 1) = some (.int .i64 x16) ∧ ∃ x17 : Int, rd H10 ((⟨H6.size, 0, none⟩ : Addr).add 2) = some (.int .u64 x17) ∧ ∃ x18 : Int, rd H10 ((⟨H6.size, 0, none⟩ : Addr).add 3) = some (.int .u64 x18) ∧ (
  okRow H10 (⟨H.size, 0, none⟩ : Addr) 4 ∧ (
  letH (wrs H10 (⟨H.size, 0, none⟩ : Addr) [.int .i64 x15, .int .i64 x16, .int .u64 x17, .int .u64 x18]) (fun H15 : Heap =>
  ∃ r4 : Int, rd H15 (⟨H.size, 0, none⟩ : Addr) = some (.int .i64 r4) ∧ ∃ r5 : Int, rd H15 ((⟨H.size, 0, none⟩ : Addr).add 1) = some (.int .i64 r5) ∧ ∃ r6 : Int, rd H15 ((⟨H.size, 0, none⟩ : Addr).add 2) = some (.int .u64 r6) ∧ ∃ r7 : Int, rd H15 ((⟨H.size, 0, none⟩ : Addr).add 3) = some (.int .u64 r7) ∧ (
  R (.tuple #[.agg #[.int .i64 r4, .int .i64 r5, .int .u64 r6, .int .u64 r7], .int .i64 x6]) H15))))))

def F_ref21_place_r2 (R : Value → Heap → Prop) (H : Heap) (a : Sl) (classv : Int) (free : Sl) (below : Sl) (I_ : Sl → Int → Heap → Prop) (M_ : Sl → Int → Heap → Nat) (sizes : Sl) (i : Int) (H3 : Heap) : Prop :=
  iteB (decide (i < (below.n : Int))) (
  0 ≤ i ∧ i < (below.n : Int) ∧ (unSome below.p (fun a1 =>
  ∃ x : Int, rd H3 ((a1.add (i.toNat * 4)).add 3) = some (.int .i64 x) ∧ (
  letH (H3.push (.cells #[.int .i64 x] t_int (0, 0))) (fun H4 : Heap =>
  runH Tryz.prog (Builtin.append_ #[t_sl_int, t_sl_int] t_sl_int #[.slice sizes.p sizes.n sizes.c, .slice (some (⟨H3.size, 0, none⟩ : Addr)) 1 1]) H4 (fun v1 H5 =>
  ∃ sizes1 : Sl, v1 = .slice sizes1.p sizes1.n sizes1.c ∧ (
  letV (IntKind.i64.wrap (i + (1 : Int))) (fun i1 : Int =>
  I_ sizes1 i1 H5 ∧ M_ sizes1 i1 H5 < M_ sizes i H3)))))))) (
  CallsH Tryz.prog n_ref21_Place #[.slice free.p free.n free.c, .slice sizes.p sizes.n sizes.c] H3 (fun v2 H6 =>
  ∃ x1 : Sl, ∃ x2 : Int, ∃ x3 : Int, ∃ x4 : Int, ∃ x5 : Int, ∃ x6 : Int, v2 = .tuple #[.slice x1.p x1.n x1.c, .agg #[.int .i64 x2, .int .i64 x3, .int .u64 x4, .int .u64 x5], .int .i64 x6] ∧ (
  letH (H6.push (.cells #[.int .i64 (0 : Int), .int .i64 (0 : Int), .int .u64 (0 : Int), .int .u64 (0 : Int)] t_api_Certificate (0, 0))) (fun H7 : Heap =>
  okRow H7 (⟨H6.size, 0, none⟩ : Addr) 4 ∧ (
  letH (wrs H7 (⟨H6.size, 0, none⟩ : Addr) [.int .i64 x2, .int .i64 x3, .int .u64 x4, .int .u64 x5]) (fun H8 : Heap =>
  okRow H8 (⟨H6.size, 0, none⟩ : Addr) 1 ∧ (
  letH (wrs H8 (⟨H6.size, 0, none⟩ : Addr) [.int .i64 classv]) (fun H9 : Heap =>
  ∃ I_1 : Int → Heap → Prop, ∃ M_1 : Int → Heap → Nat, I_1 (0 : Int) H9 ∧ (∀ i2 : Int, ∀ H10 : Heap, I_1 i2 H10 → F_ref21_place_r1 R H a below H6 x1 x6 I_1 M_1 i2 H10)))))))))

def F_ref21_place (R : Value → Heap → Prop) (l : Sl) (a : Sl) (needs : Sl) (parent : Int) (classv : Int) (free : Sl) (H : Heap) : Prop :=
  letH (H.push (.cells #[.int .i64 (0 : Int), .int .i64 (0 : Int), .int .u64 (0 : Int), .int .u64 (0 : Int)] t_api_Certificate (0, 0))) (fun H1 : Heap =>
  CallsH Tryz.prog n_ref18_NeedsBelow #[.slice l.p l.n l.c, .slice needs.p needs.n needs.c, .int .i64 parent, .int .i64 classv] H1 (fun v H2 =>
  ∃ below : Sl, v = .slice below.p below.n below.c ∧ (
  ∃ I_ : Sl → Int → Heap → Prop, ∃ M_ : Sl → Int → Heap → Nat, I_ (Sl.mk none 0 0) (0 : Int) H2 ∧ (∀ sizes : Sl, ∀ i : Int, ∀ H3 : Heap, I_ sizes i H3 → F_ref21_place_r2 R H a classv free below I_ M_ sizes i H3))))

theorem F_ref21_place_eq (R : Value → Heap → Prop) (l : Sl) (a : Sl) (needs : Sl) (parent : Int) (classv : Int) (free : Sl) (H : Heap) : wpF Tryz.prog Tryz.f29 [(15, .slice none 0 0), (16, .int .i64 0), (20, .int .i64 0)] [] [(4, [15, 16], [1, 4, 5, 12, 14]), (10, [20], [1, 12, 14, 17, 18, 19])] [20] [.slice l.p l.n l.c, .slice a.p a.n a.c, .slice needs.p needs.n needs.c, .int .i64 parent, .int .i64 classv, .slice free.p free.n free.c] H R = F_ref21_place R l a needs parent classv free H := by kernel_rfl

theorem F_ref21_place_ok {R : Value → Heap → Prop} (l : Sl) (a : Sl) (needs : Sl) (parent : Int) (classv : Int) (free : Sl) {H : Heap} (h : F_ref21_place R l a needs parent classv free H) : CallsH Tryz.prog n_ref21_place #[.slice l.p l.n l.c, .slice a.p a.n a.c, .slice needs.p needs.n needs.c, .int .i64 parent, .int .i64 classv, .slice free.p free.n free.c] H R :=
  wpF_ok Tryz.func29 (F_ref21_place_eq R l a needs parent classv free H) h

/-! ### 30: platformfw/platformfwref21.Space -/

def F_ref21_Space (R : Value → Heap → Prop) (h_0 : Int) (h_1 : Sl) (h_2 : Sl) (h_3 : Sl) (h_4 : Sl) (h_5 : Sl) (h_6 : Sl) (h_7 : Sl) (classv : Int) (H : Heap) : Prop :=
  letH (H.push (.cells #[.int .i64 h_0, .slice h_1.p h_1.n h_1.c, .slice h_2.p h_2.n h_2.c, .slice h_3.p h_3.n h_3.c, .slice h_4.p h_4.n h_4.c, .slice h_5.p h_5.n h_5.c, .slice h_6.p h_6.n h_6.c, .slice h_7.p h_7.n h_7.c] t_api_Host (0, 0))) (fun H1 : Heap =>
  iteB (classv == (0 : Int)) (
  ∃ x : Sl, rd H1 ((⟨H.size, 0, none⟩ : Addr).add 1) = some (.slice x.p x.n x.c) ∧ (
  ∃ x1 : Sl, rd H1 ((⟨H.size, 0, none⟩ : Addr).add 4) = some (.slice x1.p x1.n x1.c) ∧ (
  CallsH Tryz.prog n_ref21_Free #[.slice x.p x.n x.c, .slice x1.p x1.n x1.c] H1 (fun v H2 =>
  ∃ x2 : Sl, v = .slice x2.p x2.n x2.c ∧ (
  R (.slice x2.p x2.n x2.c) H2))))) (
  iteB (classv == (1 : Int)) (
  ∃ x3 : Sl, rd H1 ((⟨H.size, 0, none⟩ : Addr).add 2) = some (.slice x3.p x3.n x3.c) ∧ (
  ∃ x4 : Sl, rd H1 ((⟨H.size, 0, none⟩ : Addr).add 5) = some (.slice x4.p x4.n x4.c) ∧ (
  CallsH Tryz.prog n_ref21_Free #[.slice x3.p x3.n x3.c, .slice x4.p x4.n x4.c] H1 (fun v1 H3 =>
  ∃ x5 : Sl, v1 = .slice x5.p x5.n x5.c ∧ (
  R (.slice x5.p x5.n x5.c) H3))))) (
  ∃ x6 : Sl, rd H1 ((⟨H.size, 0, none⟩ : Addr).add 3) = some (.slice x6.p x6.n x6.c) ∧ (
  ∃ x7 : Sl, rd H1 ((⟨H.size, 0, none⟩ : Addr).add 5) = some (.slice x7.p x7.n x7.c) ∧ (
  CallsH Tryz.prog n_ref21_Free #[.slice x6.p x6.n x6.c, .slice x7.p x7.n x7.c] H1 (fun v2 H4 =>
  ∃ x8 : Sl, v2 = .slice x8.p x8.n x8.c ∧ (
  R (.slice x8.p x8.n x8.c) H4)))))))

theorem F_ref21_Space_eq (R : Value → Heap → Prop) (h_0 : Int) (h_1 : Sl) (h_2 : Sl) (h_3 : Sl) (h_4 : Sl) (h_5 : Sl) (h_6 : Sl) (h_7 : Sl) (classv : Int) (H : Heap) : wpF Tryz.prog Tryz.f30 [] [] [] [20] [.agg #[.int .i64 h_0, .slice h_1.p h_1.n h_1.c, .slice h_2.p h_2.n h_2.c, .slice h_3.p h_3.n h_3.c, .slice h_4.p h_4.n h_4.c, .slice h_5.p h_5.n h_5.c, .slice h_6.p h_6.n h_6.c, .slice h_7.p h_7.n h_7.c], .int .i64 classv] H R = F_ref21_Space R h_0 h_1 h_2 h_3 h_4 h_5 h_6 h_7 classv H := by kernel_rfl

theorem F_ref21_Space_ok {R : Value → Heap → Prop} (h_0 : Int) (h_1 : Sl) (h_2 : Sl) (h_3 : Sl) (h_4 : Sl) (h_5 : Sl) (h_6 : Sl) (h_7 : Sl) (classv : Int) {H : Heap} (h : F_ref21_Space R h_0 h_1 h_2 h_3 h_4 h_5 h_6 h_7 classv H) : CallsH Tryz.prog n_ref21_Space #[.agg #[.int .i64 h_0, .slice h_1.p h_1.n h_1.c, .slice h_2.p h_2.n h_2.c, .slice h_3.p h_3.n h_3.c, .slice h_4.p h_4.n h_4.c, .slice h_5.p h_5.n h_5.c, .slice h_6.p h_6.n h_6.c, .slice h_7.p h_7.n h_7.c], .int .i64 classv] H R :=
  wpF_ok Tryz.func30 (F_ref21_Space_eq R h_0 h_1 h_2 h_3 h_4 h_5 h_6 h_7 classv H) h

/-! ### 31: platformfw/platformfwref21.at -/

def F_ref21_at_r1 (R : Value → Heap → Prop) (a : Sl) (f : Int) (index : Int) (I_ : Int → Heap → Prop) (M_ : Int → Heap → Nat) (i : Int) (H1 : Heap) : Prop :=
  iteB (decide (i < (a.n : Int))) (
  0 ≤ i ∧ i < (a.n : Int) ∧ (unSome a.p (fun a1 =>
  ∃ x : Int, rd H1 (a1.add (i.toNat * 5)) = some (.int .i64 x) ∧ (
  iteB (x == f) (
  0 ≤ i ∧ i < (a.n : Int) ∧ (unSome a.p (fun a2 =>
  ∃ x1 : Int, rd H1 ((a2.add (i.toNat * 5)).add 1) = some (.int .i64 x1) ∧ (
  iteB (x1 == index) (
  R (.int .i64 i) H1) (
  letV (IntKind.i64.wrap (i + (1 : Int))) (fun i1 : Int =>
  I_ i1 H1 ∧ M_ i1 H1 < M_ i H1)))))) (
  letV (IntKind.i64.wrap (i + (1 : Int))) (fun i2 : Int =>
  I_ i2 H1 ∧ M_ i2 H1 < M_ i H1)))))) (
  R (.int .i64 (-1 : Int)) H1)

def F_ref21_at (R : Value → Heap → Prop) (a : Sl) (f : Int) (index : Int) (H : Heap) : Prop :=
  ∃ I_ : Int → Heap → Prop, ∃ M_ : Int → Heap → Nat, I_ (0 : Int) H ∧ (∀ i : Int, ∀ H1 : Heap, I_ i H1 → F_ref21_at_r1 R a f index I_ M_ i H1)

theorem F_ref21_at_eq (R : Value → Heap → Prop) (a : Sl) (f : Int) (index : Int) (H : Heap) : wpF Tryz.prog Tryz.f31 [(7, .int .i64 0)] [] [(2, [7], [0, 1, 2])] [20] [.slice a.p a.n a.c, .int .i64 f, .int .i64 index] H R = F_ref21_at R a f index H := by kernel_rfl

theorem F_ref21_at_ok {R : Value → Heap → Prop} (a : Sl) (f : Int) (index : Int) {H : Heap} (h : F_ref21_at R a f index H) : CallsH Tryz.prog n_ref21_at #[.slice a.p a.n a.c, .int .i64 f, .int .i64 index] H R :=
  wpF_ok Tryz.func31 (F_ref21_at_eq R a f index H) h

/-! ### 32: platformfw/allocate.validRanges -/

def F_allocate_validRanges (R : Value → Heap → Prop) (l : Sl) (H : Heap) : Prop :=
  iteB (decide ((l.n : Int) ≤ (1024 : Int))) (
  CallsH Tryz.prog n_allocate_within #[.slice l.p l.n l.c, .int .u64 (0 : Int), .int .u64 (4503599627370496 : Int)] H (fun v H1 =>
  ∃ x : Bool, v = .bool x ∧ (
  R (.bool x) H1))) (
  R (.bool false) H)

theorem F_allocate_validRanges_eq (R : Value → Heap → Prop) (l : Sl) (H : Heap) : wpF Tryz.prog Tryz.f32 [] [] [] [20] [.slice l.p l.n l.c] H R = F_allocate_validRanges R l H := by kernel_rfl

theorem F_allocate_validRanges_ok {R : Value → Heap → Prop} (l : Sl) {H : Heap} (h : F_allocate_validRanges R l H) : CallsH Tryz.prog n_allocate_validRanges #[.slice l.p l.n l.c] H R :=
  wpF_ok Tryz.func32 (F_allocate_validRanges_eq R l H) h

/-! ### 33: platformfw/allocate.within -/

def F_allocate_within_r1 (R : Value → Heap → Prop) (l : Sl) (base : Int) (endv : Int) (I_ : Int → Heap → Prop) (M_ : Int → Heap → Nat) (x : Int) (H1 : Heap) : Prop :=
  iteB (decide (x < (l.n : Int))) (
  0 ≤ x ∧ x < (l.n : Int) ∧ (unSome l.p (fun a =>
  ∃ x1 : Int, rd H1 (a.add (x.toNat * 2)) = some (.int .u64 x1) ∧ ∃ x2 : Int, rd H1 ((a.add (x.toNat * 2)).add 1) = some (.int .u64 x2) ∧ (
  letH (H1.push (.cells #[.int .u64 (0 : Int), .int .u64 (0 : Int)] t_api_Range (0, 0))) (fun H2 : Heap =>
  okRow H2 (⟨H1.size, 0, none⟩ : Addr) 2 ∧ (
  letH (wrs H2 (⟨H1.size, 0, none⟩ : Addr) [.int .u64 x1, .int .u64 x2]) (fun H3 : Heap =>
  ∃ x3 : Int, rd H3 ((⟨H1.size, 0, none⟩ : Addr).add 1) = some (.int .u64 x3) ∧ (
  iteB (decide (x3 < (1 : Int))) (
  R (.bool false) H3) (
  ∃ x4 : Int, rd H3 (⟨H1.size, 0, none⟩ : Addr) = some (.int .u64 x4) ∧ (
  iteB (decide (x4 < base)) (
  R (.bool false) H3) (
  ∃ x5 : Int, rd H3 (⟨H1.size, 0, none⟩ : Addr) = some (.int .u64 x5) ∧ (
  iteB (decide (x5 > endv)) (
  R (.bool false) H3) (
  ∃ x6 : Int, rd H3 ((⟨H1.size, 0, none⟩ : Addr).add 1) = some (.int .u64 x6) ∧ (
  ∃ x7 : Int, rd H3 (⟨H1.size, 0, none⟩ : Addr) = some (.int .u64 x7) ∧ (
  iteB (decide (x6 > (IntKind.u64.wrap (endv - x7)))) (
  R (.bool false) H3) (
  I_ (IntKind.i64.wrap (x + (1 : Int))) H3 ∧ M_ (IntKind.i64.wrap (x + (1 : Int))) H3 < M_ x H1)))))))))))))))) (
  R (.bool true) H1)

def F_allocate_within (R : Value → Heap → Prop) (l : Sl) (base : Int) (endv : Int) (H : Heap) : Prop :=
  ∃ I_ : Int → Heap → Prop, ∃ M_ : Int → Heap → Nat, I_ (0 : Int) H ∧ (∀ x : Int, ∀ H1 : Heap, I_ x H1 → F_allocate_within_r1 R l base endv I_ M_ x H1)

theorem F_allocate_within_eq (R : Value → Heap → Prop) (l : Sl) (base : Int) (endv : Int) (H : Heap) : wpF Tryz.prog Tryz.f33 [(11, .int .i64 0)] [] [(2, [11], [1, 2, 9, 10])] [20] [.slice l.p l.n l.c, .int .u64 base, .int .u64 endv] H R = F_allocate_within R l base endv H := by kernel_rfl

theorem F_allocate_within_ok {R : Value → Heap → Prop} (l : Sl) (base : Int) (endv : Int) {H : Heap} (h : F_allocate_within R l base endv H) : CallsH Tryz.prog n_allocate_within #[.slice l.p l.n l.c, .int .u64 base, .int .u64 endv] H R :=
  wpF_ok Tryz.func33 (F_allocate_within_eq R l base endv H) h

/-! ### 34: platformfw/platformfwref21.within -/

def F_ref21_within_r1 (R : Value → Heap → Prop) (l : Sl) (fromv : Int) (to : Int) (I_ : Int → Heap → Prop) (M_ : Int → Heap → Nat) (i : Int) (H2 : Heap) : Prop :=
  iteB (decide (i < (l.n : Int))) (
  0 ≤ i ∧ i < (l.n : Int) ∧ (unSome l.p (fun a =>
  ∃ x1 : Int, rd H2 (a.add (i.toNat * 2)) = some (.int .u64 x1) ∧ (
  iteB (decide (x1 < fromv)) (
  R (.bool false) H2) (
  0 ≤ i ∧ i < (l.n : Int) ∧ (unSome l.p (fun a1 =>
  ∃ x2 : Int, rd H2 (a1.add (i.toNat * 2)) = some (.int .u64 x2) ∧ (
  0 ≤ i ∧ i < (l.n : Int) ∧ (unSome l.p (fun a2 =>
  ∃ x3 : Int, rd H2 ((a2.add (i.toNat * 2)).add 1) = some (.int .u64 x3) ∧ (
  iteB (decide ((IntKind.u64.wrap (x2 + x3)) > to)) (
  R (.bool false) H2) (
  letV (IntKind.i64.wrap (i + (1 : Int))) (fun i1 : Int =>
  I_ i1 H2 ∧ M_ i1 H2 < M_ i H2))))))))))))) (
  R (.bool true) H2)

def F_ref21_within (R : Value → Heap → Prop) (l : Sl) (fromv : Int) (to : Int) (H : Heap) : Prop :=
  iteB (decide ((l.n : Int) > (16 : Int))) (
  R (.bool false) H) (
  CallsH Tryz.prog n_ref21_ValidRanges #[.slice l.p l.n l.c] H (fun v H1 =>
  ∃ x : Bool, v = .bool x ∧ (
  iteB (!x) (
  R (.bool false) H1) (
  ∃ I_ : Int → Heap → Prop, ∃ M_ : Int → Heap → Nat, I_ (0 : Int) H1 ∧ (∀ i : Int, ∀ H2 : Heap, I_ i H2 → F_ref21_within_r1 R l fromv to I_ M_ i H2)))))

theorem F_ref21_within_eq (R : Value → Heap → Prop) (l : Sl) (fromv : Int) (to : Int) (H : Heap) : wpF Tryz.prog Tryz.f34 [(7, .int .i64 0)] [] [(4, [7], [0, 1, 2])] [20] [.slice l.p l.n l.c, .int .u64 fromv, .int .u64 to] H R = F_ref21_within R l fromv to H := by kernel_rfl

theorem F_ref21_within_ok {R : Value → Heap → Prop} (l : Sl) (fromv : Int) (to : Int) {H : Heap} (h : F_ref21_within R l fromv to H) : CallsH Tryz.prog n_ref21_within #[.slice l.p l.n l.c, .int .u64 fromv, .int .u64 to] H R :=
  wpF_ok Tryz.func34 (F_ref21_within_eq R l fromv to H) h

/-! ### 35: platformfw/platformfwgen.ranges -/

def F_gen_ranges_r1 (R : Value → Heap → Prop) (l : Sl) (fromv : Int) (unit : Int) (most : Int) (n : Int) (I_ : Sl → Int → Heap → Prop) (M_ : Sl → Int → Heap → Nat) (out : Sl) (i : Int) (H1 : Heap) : Prop :=
  iteB (decide (i < (l.n : Int))) (
  iteB (decide (i < most)) (
  0 ≤ i ∧ i < (l.n : Int) ∧ (unSome l.p (fun a =>
  ∃ x : Int, rd H1 (a.add (i.toNat * 2)) = some (.int .u64 x) ∧ (
  n ≠ 0 ∧ (
  0 ≤ i ∧ i < (l.n : Int) ∧ (unSome l.p (fun a1 =>
  ∃ x1 : Int, rd H1 ((a1.add (i.toNat * 2)).add 1) = some (.int .u64 x1) ∧ (
  (IntKind.u64.wrap (n - (x.tmod n))) ≠ 0 ∧ (
  letH (H1.push (.cells #[.int .u64 (IntKind.u64.wrap (fromv + (IntKind.u64.wrap ((x.tmod n) * unit)))), .int .u64 (IntKind.u64.wrap ((IntKind.u64.wrap ((1 : Int) + (x1.tmod (IntKind.u64.wrap (n - (x.tmod n)))))) * unit))] t_api_Range (0, 0))) (fun H2 : Heap =>
  runH Tryz.prog (Builtin.append_ #[t_sl_api_Range, t_sl_api_Range] t_sl_api_Range #[.slice out.p out.n out.c, .slice (some (⟨H1.size, 0, none⟩ : Addr)) 1 1]) H2 (fun v H3 =>
  ∃ out1 : Sl, v = .slice out1.p out1.n out1.c ∧ (
  letV (IntKind.i64.wrap (i + (1 : Int))) (fun i1 : Int =>
  I_ out1 i1 H3 ∧ M_ out1 i1 H3 < M_ out i H1))))))))))))) (
  R (.slice out.p out.n out.c) H1)) (
  R (.slice out.p out.n out.c) H1)

def F_gen_ranges (R : Value → Heap → Prop) (l : Sl) (fromv : Int) (to : Int) (unit : Int) (most : Int) (H : Heap) : Prop :=
  unit ≠ 0 ∧ (
  letV (IntKind.u64.wrap ((IntKind.u64.wrap (to - fromv)).tdiv unit)) (fun n : Int =>
  ∃ I_ : Sl → Int → Heap → Prop, ∃ M_ : Sl → Int → Heap → Nat, I_ (Sl.mk none 0 0) (0 : Int) H ∧ (∀ out : Sl, ∀ i : Int, ∀ H1 : Heap, I_ out i H1 → F_gen_ranges_r1 R l fromv unit most n I_ M_ out i H1)))

theorem F_gen_ranges_eq (R : Value → Heap → Prop) (l : Sl) (fromv : Int) (to : Int) (unit : Int) (most : Int) (H : Heap) : wpF Tryz.prog Tryz.f35 [(11, .slice none 0 0), (13, .int .i64 0)] [] [(4, [11, 13], [0, 1, 3, 4, 12])] [20] [.slice l.p l.n l.c, .int .u64 fromv, .int .u64 to, .int .u64 unit, .int .i64 most] H R = F_gen_ranges R l fromv to unit most H := by kernel_rfl

theorem F_gen_ranges_ok {R : Value → Heap → Prop} (l : Sl) (fromv : Int) (to : Int) (unit : Int) (most : Int) {H : Heap} (h : F_gen_ranges R l fromv to unit most H) : CallsH Tryz.prog n_gen_ranges #[.slice l.p l.n l.c, .int .u64 fromv, .int .u64 to, .int .u64 unit, .int .i64 most] H R :=
  wpF_ok Tryz.func35 (F_gen_ranges_eq R l fromv to unit most H) h

end Go.Proofs.YtigcheamheiopaaGreat
