/-
  The shallow readings of this seat's functions, written by a program (gen.py); the kernel holds each against the loaded program.
-/
import Derived.Test.YtigcheamheiopaaProg
import Derived.Test.YtigcheamheiopaaEngS
namespace Go.Proofs.Ytigcheamheiopaa
open Go.Eng
set_option linter.unusedVariables false
abbrev n_law21_AllocatePlaces : FuncId := 3
abbrev n_law21_AllocatePlacementIsCorrect : FuncId := 4
abbrev n_law21_AllocateIsOptimal : FuncId := 5
abbrev n_law21_AllocateRefutationIsSound : FuncId := 6
abbrev n_law21_AllocateFree : FuncId := 7
abbrev n_law21_AllocateRefusalsAreJustified : FuncId := 8
abbrev n_law21_AllocateChecks : FuncId := 9
abbrev n_allocate_Place : FuncId := 10
abbrev n_ref21_Place : FuncId := 11
abbrev n_help_Equal_uint64 : FuncId := 12
abbrev n_allocate_Refutes : FuncId := 13
abbrev n_ref21_Refutes : FuncId := 14
abbrev n_law21_space : FuncId := 15
abbrev n_law21_sizes : FuncId := 16
abbrev n_help_Mod : FuncId := 17
abbrev n_law21_awake : FuncId := 18
abbrev n_law21_fits : FuncId := 19
abbrev n_allocate_Blocks : FuncId := 20
abbrev n_help_Equal_api_Range : FuncId := 21
abbrev n_allocate_Free : FuncId := 22
abbrev n_ref21_Free : FuncId := 23
abbrev n_ref21_Blocks : FuncId := 24
abbrev n_gen_Topology : FuncId := 25
abbrev n_gen_Host : FuncId := 26
abbrev n_allocate_Assign : FuncId := 27
abbrev n_ref18_Needs : FuncId := 28
abbrev n_ref18_NeedsBelow : FuncId := 29
abbrev n_ref21_Space : FuncId := 30
abbrev n_allocate_Check : FuncId := 31
abbrev n_ref21_Check : FuncId := 32
abbrev n_allocate_placeable : FuncId := 33
abbrev n_slices_SortStableFunc_sl_int_int : FuncId := 34
abbrev n_allocate_Place_1 : FuncId := 35
abbrev n_cmp_Compare_int : FuncId := 36
abbrev n_allocate_merged : FuncId := 37
abbrev n_allocate_take : FuncId := 38
abbrev n_allocate_certificate : FuncId := 39
abbrev n_ref21_ValidRanges : FuncId := 40
abbrev n_ref21_items : FuncId := 41
abbrev n_ref21_merge : FuncId := 42
abbrev n_ref21_up : FuncId := 43
abbrev n_ref21_refusal : FuncId := 44
abbrev n_ref21_remove : FuncId := 45
abbrev n_allocate_demand : FuncId := 46
abbrev n_ref21_demand : FuncId := 47
abbrev n_allocate_validRanges : FuncId := 48
abbrev n_allocate_countBlocks : FuncId := 49
abbrev n_gen_bars : FuncId := 50
abbrev n_gen_ranges : FuncId := 51
abbrev n_enumerate_Valid : FuncId := 52
abbrev n_allocate_ValidHost : FuncId := 53
abbrev n_resources_Needs : FuncId := 54
abbrev n_allocate_hostFree : FuncId := 55
abbrev n_allocate_window : FuncId := 56
abbrev n_allocate_placeBelow : FuncId := 57
abbrev n_ref18_Valid : FuncId := 58
abbrev n_ref18_Class : FuncId := 59
abbrev n_ref18_window : FuncId := 60
abbrev n_allocate_covers : FuncId := 61
abbrev n_allocate_inside : FuncId := 62
abbrev n_allocate_overlap : FuncId := 63
abbrev n_ref21_ValidHost : FuncId := 64
abbrev n_ref21_span : FuncId := 65
abbrev n_ref21_at : FuncId := 66
abbrev n_ref21_inside : FuncId := 67
abbrev n_slices_stableCmpFunc_int : FuncId := 68
abbrev n_cmp_isNaN_int : FuncId := 69
abbrev n_slices_Clone_sl_api_Range_api_Range : FuncId := 70
abbrev n_slices_SortFunc_sl_api_Range_api_Range : FuncId := 71
abbrev n_allocate_merged_1 : FuncId := 72
abbrev n_cmp_Compare_uint64 : FuncId := 73
abbrev n_slices_Replace_sl_api_Range_api_Range : FuncId := 74
abbrev n_allocate_within : FuncId := 75
abbrev n_pciconf_Valid : FuncId := 76
abbrev n_resources_registers : FuncId := 77
abbrev n_resources_windows : FuncId := 78
abbrev n_resources_largest : FuncId := 79
abbrev n_ref18_ValidFunction : FuncId := 80
abbrev n_ref18_bar : FuncId := 81
abbrev n_ref18_above : FuncId := 82
abbrev n_ref18_WindowSize : FuncId := 83
abbrev n_ref21_within : FuncId := 84
abbrev n_slices_insertionSortCmpFunc_int : FuncId := 85
abbrev n_slices_symMergeCmpFunc_int : FuncId := 86
abbrev n_slices_pdqsortCmpFunc_api_Range : FuncId := 87
abbrev n_math_bits_Len : FuncId := 88
abbrev n_cmp_isNaN_uint64 : FuncId := 89
abbrev n_slices_Insert_sl_api_Range_api_Range : FuncId := 90
abbrev n_slices_overlaps_api_Range : FuncId := 91
abbrev n_slices_rotateRight_api_Range : FuncId := 92
abbrev n_slices_startIdx_api_Range : FuncId := 93
abbrev n_pciconf_registers : FuncId := 94
abbrev n_pciconf_validBar : FuncId := 95
abbrev n_resources_classOf : FuncId := 96
abbrev n_resources_prefAbove : FuncId := 97
abbrev n_resources_WindowSize : FuncId := 98
abbrev n_ref18_Registers : FuncId := 99
abbrev n_slices_rotateCmpFunc_int : FuncId := 100
abbrev n_slices_insertionSortCmpFunc_api_Range : FuncId := 101
abbrev n_slices_heapSortCmpFunc_api_Range : FuncId := 102
abbrev n_slices_breakPatternsCmpFunc_api_Range : FuncId := 103
abbrev n_slices_choosePivotCmpFunc_api_Range : FuncId := 104
abbrev n_slices_reverseRangeCmpFunc_api_Range : FuncId := 105
abbrev n_slices_partialInsertionSortCmpFunc_api_Range : FuncId := 106
abbrev n_slices_partitionEqualCmpFunc_api_Range : FuncId := 107
abbrev n_slices_partitionCmpFunc_api_Range : FuncId := 108
abbrev n_math_bits_Len32 : FuncId := 109
abbrev n_math_bits_Len64 : FuncId := 110
abbrev n_slices_rotateLeft_api_Range : FuncId := 111
abbrev n_slices_swapRangeCmpFunc_int : FuncId := 112
abbrev n_slices_siftDownCmpFunc_api_Range : FuncId := 113
abbrev n_slices_nextPowerOfTwo : FuncId := 114
abbrev n_slices_xorshift_Next : FuncId := 115
abbrev n_slices_medianAdjacentCmpFunc_api_Range : FuncId := 116
abbrev n_slices_medianCmpFunc_api_Range : FuncId := 117
abbrev n_slices_Reverse_sl_api_Range_api_Range : FuncId := 118
abbrev n_slices_order2CmpFunc_api_Range : FuncId := 119
abbrev n_runtime_boundsError_Error : FuncId := 120
abbrev n_runtime_boundsError_RuntimeError : FuncId := 121
abbrev n_runtime_errorString_Error : FuncId := 122
abbrev n_runtime_errorString_RuntimeError : FuncId := 123
abbrev n_runtime_plainError_Error : FuncId := 124
abbrev n_runtime_plainError_RuntimeError : FuncId := 125
abbrev n_runtime_errorAddressString_Error : FuncId := 126
abbrev n_runtime_errorAddressString_RuntimeError : FuncId := 127
abbrev n_runtime_TypeAssertionError_Error : FuncId := 128
abbrev n_runtime_TypeAssertionError_RuntimeError : FuncId := 129
abbrev n_runtime_PanicNilError_Error : FuncId := 130
abbrev n_runtime_PanicNilError_RuntimeError : FuncId := 131
abbrev n_internal_abi_Type_Align : FuncId := 132
abbrev n_internal_runtime_maps_unhashableTypeError_Error : FuncId := 133
abbrev n_internal_runtime_maps_unhashableTypeError_RuntimeError : FuncId := 134
abbrev n_internal_abi_Kind_String : FuncId := 135
abbrev t_int64 : TypeId := 2
abbrev t_int : TypeId := 3
abbrev t_bool : TypeId := 4
abbrev t_uint8 : TypeId := 5
abbrev t_abi_BoundsErrorCode : TypeId := 6
abbrev t_runtime_boundsError : TypeId := 8
abbrev t_string : TypeId := 9
abbrev t_runtime_errorString : TypeId := 10
abbrev t_runtime_plainError : TypeId := 11
abbrev t_uintptr : TypeId := 12
abbrev t_runtime_errorAddressString : TypeId := 14
abbrev t_p_runtime_TypeAssertionError : TypeId := 15
abbrev t_p_runtime_PanicNilError : TypeId := 16
abbrev t_p_abi_Type : TypeId := 17
abbrev t_maps_unhashableTypeError : TypeId := 19
abbrev t_int32 : TypeId := 21
abbrev t_sl_api_Range : TypeId := 22
abbrev t_sl_int : TypeId := 23
abbrev t_uint64 : TypeId := 24
abbrev t_api_Certificate : TypeId := 26
abbrev t_sl_uint64 : TypeId := 27
abbrev t_api_Errno : TypeId := 28
abbrev t_512_bool : TypeId := 37
abbrev t_api_Range : TypeId := 39
abbrev t_uint : TypeId := 40
abbrev t_128_bool : TypeId := 42
abbrev t_p__128_bool : TypeId := 44
abbrev t_sl_api_Function : TypeId := 50
abbrev t_sl_api_IntLink : TypeId := 51
abbrev t_sl_api_Route : TypeId := 52
abbrev t_api_Host : TypeId := 54
abbrev t_sl_api_Assignment : TypeId := 57
abbrev t_sl_api_Need : TypeId := 60
abbrev t_api_Need : TypeId := 65
abbrev t_api_Assignment : TypeId := 69
abbrev t_map_2_int_bool : TypeId := 81
abbrev t_sl_api_Bar : TypeId := 82
abbrev t_api_Function : TypeId := 84
abbrev t_2_int : TypeId := 85
abbrev t_uint32 : TypeId := 88
abbrev t_api_IntLink : TypeId := 90
abbrev t_api_Route : TypeId := 92
abbrev t_api_Bar : TypeId := 102
abbrev t_3_int : TypeId := 104
abbrev t_3_sl_api_Range : TypeId := 106
abbrev t_map_enumerate_place_bool : TypeId := 118
abbrev t_enumerate_place : TypeId := 121
abbrev t_sl_sl_api_Range : TypeId := 122
abbrev t_sl_sl_api_Need : TypeId := 123
abbrev t_sl__3_sl_int : TypeId := 124
abbrev t_3_sl_int : TypeId := 127
abbrev t_slices_sortedHint : TypeId := 145
abbrev t_p_api_Range : TypeId := 153
abbrev t_slices_xorshift : TypeId := 154
abbrev t_p_int : TypeId := 158
abbrev t_p_slices_xorshift : TypeId := 161
abbrev t_runtime_TypeAssertionError : TypeId := 166
abbrev t_0_p_runtime_PanicNilError : TypeId := 167
abbrev t_runtime_PanicNilError : TypeId := 169
abbrev t_abi_TFlag : TypeId := 171
abbrev t_abi_Kind : TypeId := 172
abbrev t_p_uint8 : TypeId := 174
abbrev t_abi_NameOff : TypeId := 175
abbrev t_abi_TypeOff : TypeId := 176
abbrev t_abi_Type : TypeId := 178
abbrev t_unsafe_Pointer : TypeId := 179
def cstr_0 : ByteArray := ⟨#[0, 1, 2, 2, 3, 3, 3, 3, 4, 4, 4, 4, 4, 4, 4, 4, 5, 5, 5, 5, 5, 5, 5, 5, 5, 5, 5, 5, 5, 5, 5, 5, 6, 6, 6, 6, 6, 6, 6, 6, 6, 6, 6, 6, 6, 6, 6, 6, 6, 6, 6, 6, 6, 6, 6, 6, 6, 6, 6, 6, 6, 6, 6, 6, 7, 7, 7, 7, 7, 7, 7, 7, 7, 7, 7, 7, 7, 7, 7, 7, 7, 7, 7, 7, 7, 7, 7, 7, 7, 7, 7, 7, 7, 7, 7, 7, 7, 7, 7, 7, 7, 7, 7, 7, 7, 7, 7, 7, 7, 7, 7, 7, 7, 7, 7, 7, 7, 7, 7, 7, 7, 7, 7, 7, 7, 7, 7, 7, 8, 8, 8, 8, 8, 8, 8, 8, 8, 8, 8, 8, 8, 8, 8, 8, 8, 8, 8, 8, 8, 8, 8, 8, 8, 8, 8, 8, 8, 8, 8, 8, 8, 8, 8, 8, 8, 8, 8, 8, 8, 8, 8, 8, 8, 8, 8, 8, 8, 8, 8, 8, 8, 8, 8, 8, 8, 8, 8, 8, 8, 8, 8, 8, 8, 8, 8, 8, 8, 8, 8, 8, 8, 8, 8, 8, 8, 8, 8, 8, 8, 8, 8, 8, 8, 8, 8, 8, 8, 8, 8, 8, 8, 8, 8, 8, 8, 8, 8, 8, 8, 8, 8, 8, 8, 8, 8, 8, 8, 8, 8, 8, 8, 8, 8, 8, 8, 8, 8, 8, 8, 8, 8, 8, 8, 8, 8, 8]⟩

/-! ### 3: platformfw/platformfwlaw21.AllocatePlaces -/

def F_law21_AllocatePlaces_r1 (R : Value → Heap → Prop) (H : Heap) (I_ : Sl → Sl → Int → Heap → Prop) (M_ : Sl → Sl → Int → Heap → Nat) (l1 : Sl) (s1 : Sl) (k : Int) (H2 : Heap) : Prop :=
  iteB (decide (k < (2 : Int))) (
  CallsH Try.prog n_allocate_Place #[.slice l1.p l1.n l1.c, .slice s1.p s1.n s1.c] H2 (fun v H3 =>
  ∃ x : Sl, ∃ x1 : Int, ∃ x2 : Int, ∃ x3 : Int, ∃ x4 : Int, ∃ x5 : Int, v = .tuple #[.slice x.p x.n x.c, .agg #[.int .i64 x1, .int .i64 x2, .int .u64 x3, .int .u64 x4], .int .i64 x5] ∧ (
  letH (H3.push (.cells #[.int .i64 (0 : Int), .int .i64 (0 : Int), .int .u64 (0 : Int), .int .u64 (0 : Int)] t_api_Certificate (0, 0))) (fun H4 : Heap =>
  okRow H4 (⟨H3.size, 0, none⟩ : Addr) 4 ∧ (
  letH (wrs H4 (⟨H3.size, 0, none⟩ : Addr) [.int .i64 x1, .int .i64 x2, .int .u64 x3, .int .u64 x4]) (fun H5 : Heap =>
  CallsH Try.prog n_ref21_Place #[.slice l1.p l1.n l1.c, .slice s1.p s1.n s1.c] H5 (fun v1 H6 =>
  ∃ x6 : Sl, ∃ x7 : Int, ∃ x8 : Int, ∃ x9 : Int, ∃ x10 : Int, ∃ x11 : Int, v1 = .tuple #[.slice x6.p x6.n x6.c, .agg #[.int .i64 x7, .int .i64 x8, .int .u64 x9, .int .u64 x10], .int .i64 x11] ∧ (
  letH (H6.push (.cells #[.int .i64 (0 : Int), .int .i64 (0 : Int), .int .u64 (0 : Int), .int .u64 (0 : Int)] t_api_Certificate (0, 0))) (fun H7 : Heap =>
  okRow H7 (⟨H6.size, 0, none⟩ : Addr) 4 ∧ (
  letH (wrs H7 (⟨H6.size, 0, none⟩ : Addr) [.int .i64 x7, .int .i64 x8, .int .u64 x9, .int .u64 x10]) (fun H8 : Heap =>
  CallsH Try.prog n_help_Equal_uint64 #[.slice x.p x.n x.c, .slice x6.p x6.n x6.c] H8 (fun v2 H9 =>
  ∃ x12 : Bool, v2 = .bool x12 ∧ (
  iteB (!x12) (
  R (.bool false) H9) (
  ∃ x13 : Int, rd H9 (⟨H3.size, 0, none⟩ : Addr) = some (.int .i64 x13) ∧ ∃ x14 : Int, rd H9 ((⟨H3.size, 0, none⟩ : Addr).add 1) = some (.int .i64 x14) ∧ ∃ x15 : Int, rd H9 ((⟨H3.size, 0, none⟩ : Addr).add 2) = some (.int .u64 x15) ∧ ∃ x16 : Int, rd H9 ((⟨H3.size, 0, none⟩ : Addr).add 3) = some (.int .u64 x16) ∧ (
  ∃ x17 : Int, rd H9 (⟨H6.size, 0, none⟩ : Addr) = some (.int .i64 x17) ∧ ∃ x18 : Int, rd H9 ((⟨H6.size, 0, none⟩ : Addr).add 1) = some (.int .i64 x18) ∧ ∃ x19 : Int, rd H9 ((⟨H6.size, 0, none⟩ : Addr).add 2) = some (.int .u64 x19) ∧ ∃ x20 : Int, rd H9 ((⟨H6.size, 0, none⟩ : Addr).add 3) = some (.int .u64 x20) ∧ (
  iteB (!((x13 == x17) && ((x14 == x18) && ((x15 == x19) && ((x16 == x20) && true))))) (
  R (.bool false) H9) (
  iteB (x5 != x11) (
  R (.bool false) H9) (
  ∃ x21 : Int, rd H9 (⟨H.size, 0, none⟩ : Addr) = some (.int .i64 x21) ∧ ∃ x22 : Int, rd H9 ((⟨H.size, 0, none⟩ : Addr).add 1) = some (.int .i64 x22) ∧ ∃ x23 : Int, rd H9 ((⟨H.size, 0, none⟩ : Addr).add 2) = some (.int .u64 x23) ∧ ∃ x24 : Int, rd H9 ((⟨H.size, 0, none⟩ : Addr).add 3) = some (.int .u64 x24) ∧ (
  ∃ x25 : Int, rd H9 (⟨H.size, 0, none⟩ : Addr) = some (.int .i64 x25) ∧ ∃ x26 : Int, rd H9 ((⟨H.size, 0, none⟩ : Addr).add 1) = some (.int .i64 x26) ∧ ∃ x27 : Int, rd H9 ((⟨H.size, 0, none⟩ : Addr).add 2) = some (.int .u64 x27) ∧ ∃ x28 : Int, rd H9 ((⟨H.size, 0, none⟩ : Addr).add 3) = some (.int .u64 x28) ∧ (
  CallsH Try.prog n_allocate_Refutes #[.slice l1.p l1.n l1.c, .slice s1.p s1.n s1.c, .agg #[.int .i64 x21, .int .i64 x22, .int .u64 x23, .int .u64 x24]] H9 (fun v3 H10 =>
  ∃ x29 : Bool, v3 = .bool x29 ∧ (
  Keeps H9 H10 [((⟨H.size, 0, none⟩ : Addr), 4)] ∧ (
  CallsH Try.prog n_ref21_Refutes #[.slice l1.p l1.n l1.c, .slice s1.p s1.n s1.c, .agg #[.int .i64 x25, .int .i64 x26, .int .u64 x27, .int .u64 x28]] H10 (fun v4 H11 =>
  ∃ x30 : Bool, v4 = .bool x30 ∧ (
  iteB (!(x29 == x30)) (
  R (.bool false) H11) (
  CallsH Try.prog n_law21_space #[.slice l1.p l1.n l1.c] H11 (fun v5 H12 =>
  ∃ l2 : Sl, v5 = .slice l2.p l2.n l2.c ∧ (
  CallsH Try.prog n_law21_sizes #[.slice s1.p s1.n s1.c] H12 (fun v6 H13 =>
  ∃ s2 : Sl, v6 = .slice s2.p s2.n s2.c ∧ (
  ∃ x31 : Int, rd H13 ((⟨H.size, 0, none⟩ : Addr).add 1) = some (.int .i64 x31) ∧ (
  CallsH Try.prog n_help_Mod #[.int .i64 x31, .int .i64 (9 : Int)] H13 (fun v7 H14 =>
  ∃ x32 : Int, v7 = .int .i64 x32 ∧ (
  okRow H14 ((⟨H.size, 0, none⟩ : Addr).add 1) 1 ∧ (
  letH (wrs H14 ((⟨H.size, 0, none⟩ : Addr).add 1) [.int .i64 x32]) (fun H15 : Heap =>
  letV (IntKind.i64.wrap (k + (1 : Int))) (fun k1 : Int =>
  I_ l2 s2 k1 H15 ∧ M_ l2 s2 k1 H15 < M_ l1 s1 k H2)))))))))))))))))))))))))))))))))))) (
  CallsH Try.prog n_law21_awake #[] H2 (fun v8 H16 =>
  ∃ x33 : Bool, v8 = .bool x33 ∧ (
  R (.bool x33) H16)))

def F_law21_AllocatePlaces (R : Value → Heap → Prop) (l : Sl) (s : Sl) (c_0 : Int) (c_1 : Int) (c_2 : Int) (c_3 : Int) (H : Heap) : Prop :=
  letH (H.push (.cells #[.int .i64 c_0, .int .i64 c_1, .int .u64 c_2, .int .u64 c_3] t_api_Certificate (0, 0))) (fun H1 : Heap =>
  ∃ I_ : Sl → Sl → Int → Heap → Prop, ∃ M_ : Sl → Sl → Int → Heap → Nat, I_ l s (0 : Int) H1 ∧ (∀ l1 : Sl, ∀ s1 : Sl, ∀ k : Int, ∀ H2 : Heap, I_ l1 s1 k H2 → F_law21_AllocatePlaces_r1 R H I_ M_ l1 s1 k H2))

theorem F_law21_AllocatePlaces_eq (R : Value → Heap → Prop) (l : Sl) (s : Sl) (c_0 : Int) (c_1 : Int) (c_2 : Int) (c_3 : Int) (H : Heap) : wpF Try.prog Try.f3 [(0, .slice none 0 0), (1, .slice none 0 0), (7, .int .i64 0)] [] [(2, [0, 1, 7], [5])] [17] [.slice l.p l.n l.c, .slice s.p s.n s.c, .agg #[.int .i64 c_0, .int .i64 c_1, .int .u64 c_2, .int .u64 c_3]] H R = F_law21_AllocatePlaces R l s c_0 c_1 c_2 c_3 H := by kernel_rfl

theorem F_law21_AllocatePlaces_ok {R : Value → Heap → Prop} (l : Sl) (s : Sl) (c_0 : Int) (c_1 : Int) (c_2 : Int) (c_3 : Int) {H : Heap} (h : F_law21_AllocatePlaces R l s c_0 c_1 c_2 c_3 H) : CallsH Try.prog n_law21_AllocatePlaces #[.slice l.p l.n l.c, .slice s.p s.n s.c, .agg #[.int .i64 c_0, .int .i64 c_1, .int .u64 c_2, .int .u64 c_3]] H R :=
  wpF_ok Try.func3 (F_law21_AllocatePlaces_eq R l s c_0 c_1 c_2 c_3 H) h

/-! ### 4: platformfw/platformfwlaw21.AllocatePlacementIsCorrect -/

def F_law21_AllocatePlacementIsCorrect_r1 (free : Sl) (H9 : Heap) (I_ : Int → Heap → Prop) (M_ : Int → Heap → Nat) (i : Int) (H11 : Heap) (I_1 : Int → Heap → Prop) (M_1 : Int → Heap → Nat) (x10 : Int) (H12 : Heap) : Prop :=
  0 ≤ i ∧ i < (free.n : Int) ∧ (unSome free.p (fun a1 =>
  ∃ x11 : Int, rd H12 (a1.add (i.toNat * 2)) = some (.int .u64 x11) ∧ (
  0 ≤ i ∧ i < (free.n : Int) ∧ (unSome free.p (fun a2 =>
  ∃ x12 : Int, rd H12 ((a2.add (i.toNat * 2)).add 1) = some (.int .u64 x12) ∧ (
  iteB (decide (x10 < (IntKind.u64.wrap (x11 + x12)))) (
  0 ≤ x10 ∧ x10 < ((512 : Nat) : Int) ∧ (okRow H12 ((⟨H9.size, 0, none⟩ : Addr).add (x10.toNat * 1)) 1 ∧ (
  letH (wrs H12 ((⟨H9.size, 0, none⟩ : Addr).add (x10.toNat * 1)) [.bool true]) (fun H13 : Heap =>
  letV (IntKind.u64.wrap (x10 + (1 : Int))) (fun x13 : Int =>
  I_1 x13 H13 ∧ M_1 x13 H13 < M_1 x10 H12))))) (
  letV (IntKind.i64.wrap (i + (1 : Int))) (fun i1 : Int =>
  I_ i1 H12 ∧ M_ i1 H12 < M_ i H11))))))))

def F_law21_AllocatePlacementIsCorrect_r2 (R : Value → Heap → Prop) (x : Sl) (H7 : Heap) (H9 : Heap) (I_2 : Int → Heap → Prop) (M_2 : Int → Heap → Nat) (i2 : Int) (H14 : Heap) (n : Int) (I_3 : Int → Heap → Prop) (M_3 : Int → Heap → Nat) (x18 : Int) (H15 : Heap) : Prop :=
  0 ≤ i2 ∧ i2 < (x.n : Int) ∧ (unSome x.p (fun a7 =>
  ∃ x19 : Int, rd H15 (a7.add (i2.toNat * 1)) = some (.int .u64 x19) ∧ (
  iteB (decide (x18 < (IntKind.u64.wrap (x19 + n)))) (
  0 ≤ x18 ∧ x18 < ((512 : Nat) : Int) ∧ (∃ x20 : Bool, rd H15 ((⟨H7.size, 0, none⟩ : Addr).add (x18.toNat * 1)) = some (.bool x20) ∧ (
  iteB x20 (
  R (.bool false) H15) (
  0 ≤ x18 ∧ x18 < ((512 : Nat) : Int) ∧ (∃ x21 : Bool, rd H15 ((⟨H9.size, 0, none⟩ : Addr).add (x18.toNat * 1)) = some (.bool x21) ∧ (
  iteB (!x21) (
  R (.bool false) H15) (
  0 ≤ x18 ∧ x18 < ((512 : Nat) : Int) ∧ (okRow H15 ((⟨H7.size, 0, none⟩ : Addr).add (x18.toNat * 1)) 1 ∧ (
  letH (wrs H15 ((⟨H7.size, 0, none⟩ : Addr).add (x18.toNat * 1)) [.bool true]) (fun H16 : Heap =>
  letV (IntKind.u64.wrap (x18 + (1 : Int))) (fun x22 : Int =>
  I_3 x22 H16 ∧ M_3 x22 H16 < M_3 x18 H15))))))))))) (
  letV (IntKind.i64.wrap (i2 + (1 : Int))) (fun i3 : Int =>
  I_2 i3 H15 ∧ M_2 i3 H15 < M_2 i2 H14)))))

def F_law21_AllocatePlacementIsCorrect_r3 (R : Value → Heap → Prop) (items : Sl) (x : Sl) (H7 : Heap) (H9 : Heap) (I_2 : Int → Heap → Prop) (M_2 : Int → Heap → Nat) (i2 : Int) (H14 : Heap) : Prop :=
  iteB (decide (i2 < (x.n : Int))) (
  0 ≤ i2 ∧ i2 < (items.n : Int) ∧ (unSome items.p (fun a3 =>
  ∃ x14 : Int, rd H14 (a3.add (i2.toNat * 1)) = some (.int .i64 x14) ∧ (
  0 ≤ (IntKind.u64.wrap x14) ∧ (
  letV (IntKind.u64.wrap ((1 : Int) * 2 ^ (min (IntKind.u64.wrap x14).toNat IntKind.u64.bits))) (fun n : Int =>
  0 ≤ i2 ∧ i2 < (x.n : Int) ∧ (unSome x.p (fun a4 =>
  ∃ x15 : Int, rd H14 (a4.add (i2.toNat * 1)) = some (.int .u64 x15) ∧ (
  n ≠ 0 ∧ (
  iteB ((x15.tmod n) != (0 : Int)) (
  R (.bool false) H14) (
  0 ≤ i2 ∧ i2 < (x.n : Int) ∧ (unSome x.p (fun a5 =>
  ∃ x16 : Int, rd H14 (a5.add (i2.toNat * 1)) = some (.int .u64 x16) ∧ (
  iteB (decide (x16 > (IntKind.u64.wrap ((512 : Int) - n)))) (
  R (.bool false) H14) (
  0 ≤ i2 ∧ i2 < (x.n : Int) ∧ (unSome x.p (fun a6 =>
  ∃ x17 : Int, rd H14 (a6.add (i2.toNat * 1)) = some (.int .u64 x17) ∧ (
  ∃ I_3 : Int → Heap → Prop, ∃ M_3 : Int → Heap → Nat, I_3 x17 H14 ∧ (∀ x18 : Int, ∀ H15 : Heap, I_3 x18 H15 → F_law21_AllocatePlacementIsCorrect_r2 R x H7 H9 I_2 M_2 i2 H14 n I_3 M_3 x18 H15))))))))))))))))))) (
  R (.bool true) H14)

def F_law21_AllocatePlacementIsCorrect_r4 (R : Value → Heap → Prop) (free : Sl) (items : Sl) (x : Sl) (H7 : Heap) (H9 : Heap) (I_ : Int → Heap → Prop) (M_ : Int → Heap → Nat) (i : Int) (H11 : Heap) : Prop :=
  iteB (decide (i < (free.n : Int))) (
  0 ≤ i ∧ i < (free.n : Int) ∧ (unSome free.p (fun a =>
  ∃ x9 : Int, rd H11 (a.add (i.toNat * 2)) = some (.int .u64 x9) ∧ (
  ∃ I_1 : Int → Heap → Prop, ∃ M_1 : Int → Heap → Nat, I_1 x9 H11 ∧ (∀ x10 : Int, ∀ H12 : Heap, I_1 x10 H12 → F_law21_AllocatePlacementIsCorrect_r1 free H9 I_ M_ i H11 I_1 M_1 x10 H12))))) (
  ∃ I_2 : Int → Heap → Prop, ∃ M_2 : Int → Heap → Nat, I_2 (0 : Int) H11 ∧ (∀ i2 : Int, ∀ H14 : Heap, I_2 i2 H14 → F_law21_AllocatePlacementIsCorrect_r3 R items x H7 H9 I_2 M_2 i2 H14))

def F_law21_AllocatePlacementIsCorrect_k5 (R : Value → Heap → Prop) (free : Sl) (items : Sl) (x : Sl) (x5 : Int) (x7 : Bool) (H7 : Heap) : Prop :=
  iteB x7 (
  CallsH Try.prog n_law21_awake #[] H7 (fun v4 H8 =>
  ∃ x8 : Bool, v4 = .bool x8 ∧ (
  iteB x8 (
  iteB (x5 == (19 : Int)) (
  R (.bool ((x.n : Int) == (0 : Int))) H8) (
  R (.bool false) H8)) (
  R (.bool false) H8)))) (
  iteB ((x.n : Int) != (items.n : Int)) (
  R (.bool false) H7) (
  letH (H7.push (.cells #[.bool false, .bool false, .bool false, .bool false, .bool false, .bool false, .bool false, .bool false, .bool false, .bool false, .bool false, .bool false, .bool false, .bool false, .bool false, .bool false, .bool false, .bool false, .bool false, .bool false, .bool false, .bool false, .bool false, .bool false, .bool false, .bool false, .bool false, .bool false, .bool false, .bool false, .bool false, .bool false, .bool false, .bool false, .bool false, .bool false, .bool false, .bool false, .bool false, .bool false, .bool false, .bool false, .bool false, .bool false, .bool false, .bool false, .bool false, .bool false, .bool false, .bool false, .bool false, .bool false, .bool false, .bool false, .bool false, .bool false, .bool false, .bool false, .bool false, .bool false, .bool false, .bool false, .bool false, .bool false, .bool false, .bool false, .bool false, .bool false, .bool false, .bool false, .bool false, .bool false, .bool false, .bool false, .bool false, .bool false, .bool false, .bool false, .bool false, .bool false, .bool false, .bool false, .bool false, .bool false, .bool false, .bool false, .bool false, .bool false, .bool false, .bool false, .bool false, .bool false, .bool false, .bool false, .bool false, .bool false, .bool false, .bool false, .bool false, .bool false, .bool false, .bool false, .bool false, .bool false, .bool false, .bool false, .bool false, .bool false, .bool false, .bool false, .bool false, .bool false, .bool false, .bool false, .bool false, .bool false, .bool false, .bool false, .bool false, .bool false, .bool false, .bool false, .bool false, .bool false, .bool false, .bool false, .bool false, .bool false, .bool false, .bool false, .bool false, .bool false, .bool false, .bool false, .bool false, .bool false, .bool false, .bool false, .bool false, .bool false, .bool false, .bool false, .bool false, .bool false, .bool false, .bool false, .bool false, .bool false, .bool false, .bool false, .bool false, .bool false, .bool false, .bool false, .bool false, .bool false, .bool false, .bool false, .bool false, .bool false, .bool false, .bool false, .bool false, .bool false, .bool false, .bool false, .bool false, .bool false, .bool false, .bool false, .bool false, .bool false, .bool false, .bool false, .bool false, .bool false, .bool false, .bool false, .bool false, .bool false, .bool false, .bool false, .bool false, .bool false, .bool false, .bool false, .bool false, .bool false, .bool false, .bool false, .bool false, .bool false, .bool false, .bool false, .bool false, .bool false, .bool false, .bool false, .bool false, .bool false, .bool false, .bool false, .bool false, .bool false, .bool false, .bool false, .bool false, .bool false, .bool false, .bool false, .bool false, .bool false, .bool false, .bool false, .bool false, .bool false, .bool false, .bool false, .bool false, .bool false, .bool false, .bool false, .bool false, .bool false, .bool false, .bool false, .bool false, .bool false, .bool false, .bool false, .bool false, .bool false, .bool false, .bool false, .bool false, .bool false, .bool false, .bool false, .bool false, .bool false, .bool false, .bool false, .bool false, .bool false, .bool false, .bool false, .bool false, .bool false, .bool false, .bool false, .bool false, .bool false, .bool false, .bool false, .bool false, .bool false, .bool false, .bool false, .bool false, .bool false, .bool false, .bool false, .bool false, .bool false, .bool false, .bool false, .bool false, .bool false, .bool false, .bool false, .bool false, .bool false, .bool false, .bool false, .bool false, .bool false, .bool false, .bool false, .bool false, .bool false, .bool false, .bool false, .bool false, .bool false, .bool false, .bool false, .bool false, .bool false, .bool false, .bool false, .bool false, .bool false, .bool false, .bool false, .bool false, .bool false, .bool false, .bool false, .bool false, .bool false, .bool false, .bool false, .bool false, .bool false, .bool false, .bool false, .bool false, .bool false, .bool false, .bool false, .bool false, .bool false, .bool false, .bool false, .bool false, .bool false, .bool false, .bool false, .bool false, .bool false, .bool false, .bool false, .bool false, .bool false, .bool false, .bool false, .bool false, .bool false, .bool false, .bool false, .bool false, .bool false, .bool false, .bool false, .bool false, .bool false, .bool false, .bool false, .bool false, .bool false, .bool false, .bool false, .bool false, .bool false, .bool false, .bool false, .bool false, .bool false, .bool false, .bool false, .bool false, .bool false, .bool false, .bool false, .bool false, .bool false, .bool false, .bool false, .bool false, .bool false, .bool false, .bool false, .bool false, .bool false, .bool false, .bool false, .bool false, .bool false, .bool false, .bool false, .bool false, .bool false, .bool false, .bool false, .bool false, .bool false, .bool false, .bool false, .bool false, .bool false, .bool false, .bool false, .bool false, .bool false, .bool false, .bool false, .bool false, .bool false, .bool false, .bool false, .bool false, .bool false, .bool false, .bool false, .bool false, .bool false, .bool false, .bool false, .bool false, .bool false, .bool false, .bool false, .bool false, .bool false, .bool false, .bool false, .bool false, .bool false, .bool false, .bool false, .bool false, .bool false, .bool false, .bool false, .bool false, .bool false, .bool false, .bool false, .bool false, .bool false, .bool false, .bool false, .bool false, .bool false, .bool false, .bool false, .bool false, .bool false, .bool false, .bool false, .bool false, .bool false, .bool false, .bool false, .bool false, .bool false, .bool false, .bool false, .bool false, .bool false, .bool false, .bool false, .bool false, .bool false, .bool false, .bool false, .bool false, .bool false, .bool false, .bool false, .bool false, .bool false, .bool false, .bool false, .bool false, .bool false, .bool false, .bool false, .bool false, .bool false, .bool false, .bool false, .bool false, .bool false, .bool false, .bool false, .bool false, .bool false, .bool false, .bool false, .bool false, .bool false, .bool false, .bool false, .bool false, .bool false, .bool false, .bool false, .bool false, .bool false, .bool false, .bool false, .bool false, .bool false, .bool false, .bool false, .bool false, .bool false, .bool false, .bool false, .bool false, .bool false, .bool false, .bool false, .bool false, .bool false, .bool false, .bool false, .bool false, .bool false, .bool false, .bool false, .bool false, .bool false, .bool false, .bool false, .bool false, .bool false, .bool false, .bool false, .bool false, .bool false] t_512_bool (0, 0))) (fun H9 : Heap =>
  letH (H9.push (.cells #[.bool false, .bool false, .bool false, .bool false, .bool false, .bool false, .bool false, .bool false, .bool false, .bool false, .bool false, .bool false, .bool false, .bool false, .bool false, .bool false, .bool false, .bool false, .bool false, .bool false, .bool false, .bool false, .bool false, .bool false, .bool false, .bool false, .bool false, .bool false, .bool false, .bool false, .bool false, .bool false, .bool false, .bool false, .bool false, .bool false, .bool false, .bool false, .bool false, .bool false, .bool false, .bool false, .bool false, .bool false, .bool false, .bool false, .bool false, .bool false, .bool false, .bool false, .bool false, .bool false, .bool false, .bool false, .bool false, .bool false, .bool false, .bool false, .bool false, .bool false, .bool false, .bool false, .bool false, .bool false, .bool false, .bool false, .bool false, .bool false, .bool false, .bool false, .bool false, .bool false, .bool false, .bool false, .bool false, .bool false, .bool false, .bool false, .bool false, .bool false, .bool false, .bool false, .bool false, .bool false, .bool false, .bool false, .bool false, .bool false, .bool false, .bool false, .bool false, .bool false, .bool false, .bool false, .bool false, .bool false, .bool false, .bool false, .bool false, .bool false, .bool false, .bool false, .bool false, .bool false, .bool false, .bool false, .bool false, .bool false, .bool false, .bool false, .bool false, .bool false, .bool false, .bool false, .bool false, .bool false, .bool false, .bool false, .bool false, .bool false, .bool false, .bool false, .bool false, .bool false, .bool false, .bool false, .bool false, .bool false, .bool false, .bool false, .bool false, .bool false, .bool false, .bool false, .bool false, .bool false, .bool false, .bool false, .bool false, .bool false, .bool false, .bool false, .bool false, .bool false, .bool false, .bool false, .bool false, .bool false, .bool false, .bool false, .bool false, .bool false, .bool false, .bool false, .bool false, .bool false, .bool false, .bool false, .bool false, .bool false, .bool false, .bool false, .bool false, .bool false, .bool false, .bool false, .bool false, .bool false, .bool false, .bool false, .bool false, .bool false, .bool false, .bool false, .bool false, .bool false, .bool false, .bool false, .bool false, .bool false, .bool false, .bool false, .bool false, .bool false, .bool false, .bool false, .bool false, .bool false, .bool false, .bool false, .bool false, .bool false, .bool false, .bool false, .bool false, .bool false, .bool false, .bool false, .bool false, .bool false, .bool false, .bool false, .bool false, .bool false, .bool false, .bool false, .bool false, .bool false, .bool false, .bool false, .bool false, .bool false, .bool false, .bool false, .bool false, .bool false, .bool false, .bool false, .bool false, .bool false, .bool false, .bool false, .bool false, .bool false, .bool false, .bool false, .bool false, .bool false, .bool false, .bool false, .bool false, .bool false, .bool false, .bool false, .bool false, .bool false, .bool false, .bool false, .bool false, .bool false, .bool false, .bool false, .bool false, .bool false, .bool false, .bool false, .bool false, .bool false, .bool false, .bool false, .bool false, .bool false, .bool false, .bool false, .bool false, .bool false, .bool false, .bool false, .bool false, .bool false, .bool false, .bool false, .bool false, .bool false, .bool false, .bool false, .bool false, .bool false, .bool false, .bool false, .bool false, .bool false, .bool false, .bool false, .bool false, .bool false, .bool false, .bool false, .bool false, .bool false, .bool false, .bool false, .bool false, .bool false, .bool false, .bool false, .bool false, .bool false, .bool false, .bool false, .bool false, .bool false, .bool false, .bool false, .bool false, .bool false, .bool false, .bool false, .bool false, .bool false, .bool false, .bool false, .bool false, .bool false, .bool false, .bool false, .bool false, .bool false, .bool false, .bool false, .bool false, .bool false, .bool false, .bool false, .bool false, .bool false, .bool false, .bool false, .bool false, .bool false, .bool false, .bool false, .bool false, .bool false, .bool false, .bool false, .bool false, .bool false, .bool false, .bool false, .bool false, .bool false, .bool false, .bool false, .bool false, .bool false, .bool false, .bool false, .bool false, .bool false, .bool false, .bool false, .bool false, .bool false, .bool false, .bool false, .bool false, .bool false, .bool false, .bool false, .bool false, .bool false, .bool false, .bool false, .bool false, .bool false, .bool false, .bool false, .bool false, .bool false, .bool false, .bool false, .bool false, .bool false, .bool false, .bool false, .bool false, .bool false, .bool false, .bool false, .bool false, .bool false, .bool false, .bool false, .bool false, .bool false, .bool false, .bool false, .bool false, .bool false, .bool false, .bool false, .bool false, .bool false, .bool false, .bool false, .bool false, .bool false, .bool false, .bool false, .bool false, .bool false, .bool false, .bool false, .bool false, .bool false, .bool false, .bool false, .bool false, .bool false, .bool false, .bool false, .bool false, .bool false, .bool false, .bool false, .bool false, .bool false, .bool false, .bool false, .bool false, .bool false, .bool false, .bool false, .bool false, .bool false, .bool false, .bool false, .bool false, .bool false, .bool false, .bool false, .bool false, .bool false, .bool false, .bool false, .bool false, .bool false, .bool false, .bool false, .bool false, .bool false, .bool false, .bool false, .bool false, .bool false, .bool false, .bool false, .bool false, .bool false, .bool false, .bool false, .bool false, .bool false, .bool false, .bool false, .bool false, .bool false, .bool false, .bool false, .bool false, .bool false, .bool false, .bool false, .bool false, .bool false, .bool false, .bool false, .bool false, .bool false, .bool false, .bool false, .bool false, .bool false, .bool false, .bool false, .bool false, .bool false, .bool false, .bool false, .bool false, .bool false, .bool false, .bool false, .bool false, .bool false, .bool false, .bool false, .bool false, .bool false, .bool false, .bool false, .bool false, .bool false, .bool false, .bool false, .bool false, .bool false, .bool false, .bool false, .bool false, .bool false, .bool false, .bool false, .bool false, .bool false, .bool false, .bool false, .bool false, .bool false, .bool false, .bool false, .bool false, .bool false, .bool false, .bool false, .bool false, .bool false, .bool false, .bool false, .bool false, .bool false] t_512_bool (0, 0))) (fun H10 : Heap =>
  ∃ I_ : Int → Heap → Prop, ∃ M_ : Int → Heap → Nat, I_ (0 : Int) H10 ∧ (∀ i : Int, ∀ H11 : Heap, I_ i H11 → F_law21_AllocatePlacementIsCorrect_r4 R free items x H7 H9 I_ M_ i H11)))))

def F_law21_AllocatePlacementIsCorrect (R : Value → Heap → Prop) (l : Sl) (s : Sl) (H : Heap) : Prop :=
  CallsH Try.prog n_law21_space #[.slice l.p l.n l.c] H (fun v H1 =>
  ∃ free : Sl, v = .slice free.p free.n free.c ∧ (
  CallsH Try.prog n_law21_sizes #[.slice s.p s.n s.c] H1 (fun v1 H2 =>
  ∃ items : Sl, v1 = .slice items.p items.n items.c ∧ (
  CallsH Try.prog n_allocate_Place #[.slice free.p free.n free.c, .slice items.p items.n items.c] H2 (fun v2 H3 =>
  ∃ x : Sl, ∃ x1 : Int, ∃ x2 : Int, ∃ x3 : Int, ∃ x4 : Int, ∃ x5 : Int, v2 = .tuple #[.slice x.p x.n x.c, .agg #[.int .i64 x1, .int .i64 x2, .int .u64 x3, .int .u64 x4], .int .i64 x5] ∧ (
  letH (H3.push (.cells #[.int .i64 (0 : Int), .int .i64 (0 : Int), .int .u64 (0 : Int), .int .u64 (0 : Int)] t_api_Certificate (0, 0))) (fun H4 : Heap =>
  okRow H4 (⟨H3.size, 0, none⟩ : Addr) 4 ∧ (
  letH (wrs H4 (⟨H3.size, 0, none⟩ : Addr) [.int .i64 x1, .int .i64 x2, .int .u64 x3, .int .u64 x4]) (fun H5 : Heap =>
  ∃ J_ : Bool → Heap → Prop, (
  CallsH Try.prog n_law21_awake #[] H5 (fun v3 H6 =>
  ∃ x6 : Bool, v3 = .bool x6 ∧ (
  iteB (!x6) (
  J_ true H6) (
  J_ (x5 != (0 : Int)) H6)))) ∧ (∀ x7 : Bool, ∀ H7 : Heap, J_ x7 H7 → F_law21_AllocatePlacementIsCorrect_k5 R free items x x5 x7 H7))))))))))

theorem F_law21_AllocatePlacementIsCorrect_eq (R : Value → Heap → Prop) (l : Sl) (s : Sl) (H : Heap) : wpF Try.prog Try.f4 [(12, .int .i64 0), (13, .int .u64 0), (14, .int .i64 0), (16, .int .u64 0), (33, .bool false)] [(4, [33], [5, 6, 7, 9])] [(9, [12], [5, 6, 7, 10, 11]), (12, [13], [5, 6, 7, 10, 11, 12]), (16, [14], [6, 7, 10, 11]), (22, [16], [6, 7, 10, 11, 14, 15])] [17] [.slice l.p l.n l.c, .slice s.p s.n s.c] H R = F_law21_AllocatePlacementIsCorrect R l s H := by kernel_rfl

theorem F_law21_AllocatePlacementIsCorrect_ok {R : Value → Heap → Prop} (l : Sl) (s : Sl) {H : Heap} (h : F_law21_AllocatePlacementIsCorrect R l s H) : CallsH Try.prog n_law21_AllocatePlacementIsCorrect #[.slice l.p l.n l.c, .slice s.p s.n s.c] H R :=
  wpF_ok Try.func4 (F_law21_AllocatePlacementIsCorrect_eq R l s H) h

/-! ### 5: platformfw/platformfwlaw21.AllocateIsOptimal -/

def F_law21_AllocateIsOptimal_r1 (H : Heap) (I_ : Sl → Int → Heap → Prop) (M_ : Sl → Int → Heap → Nat) (free : Sl) (i : Int) (H2 : Heap) (free1 : Sl) (I_1 : Int → Heap → Prop) (M_1 : Int → Heap → Nat) (x5 : Int) (H7 : Heap) : Prop :=
  ∃ x6 : Int, rd H7 (⟨H2.size, 0, none⟩ : Addr) = some (.int .u64 x6) ∧ (
  ∃ x7 : Int, rd H7 ((⟨H2.size, 0, none⟩ : Addr).add 1) = some (.int .u64 x7) ∧ (
  iteB (decide (x5 < (IntKind.u64.wrap (x6 + x7)))) (
  0 ≤ x5 ∧ x5 < ((128 : Nat) : Int) ∧ (okRow H7 ((⟨H.size, 0, none⟩ : Addr).add (x5.toNat * 1)) 1 ∧ (
  letH (wrs H7 ((⟨H.size, 0, none⟩ : Addr).add (x5.toNat * 1)) [.bool true]) (fun H8 : Heap =>
  letV (IntKind.u64.wrap (x5 + (1 : Int))) (fun x8 : Int =>
  I_1 x8 H8 ∧ M_1 x8 H8 < M_1 x5 H7))))) (
  letV (IntKind.i64.wrap (i + (1 : Int))) (fun i1 : Int =>
  I_ free1 i1 H7 ∧ M_ free1 i1 H7 < M_ free i H2))))

def F_law21_AllocateIsOptimal_r2 (H : Heap) (l : Sl) (J_ : Sl → Heap → Prop) (I_ : Sl → Int → Heap → Prop) (M_ : Sl → Int → Heap → Nat) (free : Sl) (i : Int) (H2 : Heap) : Prop :=
  iteB (decide (i < (l.n : Int))) (
  iteB (decide (i < (5 : Int))) (
  0 ≤ i ∧ i < (l.n : Int) ∧ (unSome l.p (fun a =>
  ∃ x : Int, rd H2 (a.add (i.toNat * 2)) = some (.int .u64 x) ∧ (
  0 ≤ i ∧ i < (l.n : Int) ∧ (unSome l.p (fun a1 =>
  ∃ x1 : Int, rd H2 ((a1.add (i.toNat * 2)).add 1) = some (.int .u64 x1) ∧ (
  letH (H2.push (.cells #[.int .u64 (0 : Int), .int .u64 (0 : Int)] t_api_Range (0, 0))) (fun H3 : Heap =>
  Keeps H2 H3 [((a.add (i.toNat * 2)), 1), (((a1.add (i.toNat * 2)).add 1), 1)] ∧ (
  okRow H3 (⟨H2.size, 0, none⟩ : Addr) 2 ∧ (
  letH (wrs H3 (⟨H2.size, 0, none⟩ : Addr) [.int .u64 (x.tmod (100 : Int)), .int .u64 (IntKind.u64.wrap ((1 : Int) + (x1.tmod (28 : Int))))]) (fun H4 : Heap =>
  ∃ x2 : Int, rd H4 (⟨H2.size, 0, none⟩ : Addr) = some (.int .u64 x2) ∧ ∃ x3 : Int, rd H4 ((⟨H2.size, 0, none⟩ : Addr).add 1) = some (.int .u64 x3) ∧ (
  letH (H4.push (.cells #[.int .u64 x2, .int .u64 x3] t_api_Range (0, 0))) (fun H5 : Heap =>
  runH Try.prog (Builtin.append_ #[t_sl_api_Range, t_sl_api_Range] t_sl_api_Range #[.slice free.p free.n free.c, .slice (some (⟨H4.size, 0, none⟩ : Addr)) 1 1]) H5 (fun v H6 =>
  ∃ free1 : Sl, v = .slice free1.p free1.n free1.c ∧ (
  ∃ x4 : Int, rd H6 (⟨H2.size, 0, none⟩ : Addr) = some (.int .u64 x4) ∧ (
  ∃ I_1 : Int → Heap → Prop, ∃ M_1 : Int → Heap → Nat, I_1 x4 H6 ∧ (∀ x5 : Int, ∀ H7 : Heap, I_1 x5 H7 → F_law21_AllocateIsOptimal_r1 H I_ M_ free i H2 free1 I_1 M_1 x5 H7))))))))))))))))) (
  J_ free H2)) (
  J_ free H2)

def F_law21_AllocateIsOptimal_r3 (s : Sl) (J_1 : Sl → Heap → Prop) (I_2 : Sl → Int → Heap → Prop) (M_2 : Sl → Int → Heap → Nat) (items : Sl) (i2 : Int) (H10 : Heap) : Prop :=
  iteB (decide (i2 < (s.n : Int))) (
  iteB (decide (i2 < (5 : Int))) (
  0 ≤ i2 ∧ i2 < (s.n : Int) ∧ (unSome s.p (fun a2 =>
  ∃ x9 : Int, rd H10 (a2.add (i2.toNat * 1)) = some (.int .i64 x9) ∧ (
  CallsH Try.prog n_help_Mod #[.int .i64 x9, .int .i64 (5 : Int)] H10 (fun v1 H11 =>
  ∃ x10 : Int, v1 = .int .i64 x10 ∧ (
  letH (H11.push (.cells #[.int .i64 (IntKind.i64.wrap ((1 : Int) + x10))] t_int (0, 0))) (fun H12 : Heap =>
  runH Try.prog (Builtin.append_ #[t_sl_int, t_sl_int] t_sl_int #[.slice items.p items.n items.c, .slice (some (⟨H11.size, 0, none⟩ : Addr)) 1 1]) H12 (fun v2 H13 =>
  ∃ items1 : Sl, v2 = .slice items1.p items1.n items1.c ∧ (
  letV (IntKind.i64.wrap (i2 + (1 : Int))) (fun i3 : Int =>
  I_2 items1 i3 H13 ∧ M_2 items1 i3 H13 < M_2 items i2 H10)))))))))) (
  J_1 items H10)) (
  J_1 items H10)

def F_law21_AllocateIsOptimal_r4 (items2 : Sl) (I_3 : Sl → Int → Heap → Prop) (M_3 : Sl → Int → Heap → Nat) (sorted : Sl) (k : Int) (H18 : Heap) (I_4 : Sl → Int → Heap → Prop) (M_4 : Sl → Int → Heap → Nat) (sorted1 : Sl) (i4 : Int) (H19 : Heap) : Prop :=
  iteB (decide (i4 < (items2.n : Int))) (
  0 ≤ i4 ∧ i4 < (items2.n : Int) ∧ (unSome items2.p (fun a3 =>
  ∃ x17 : Int, rd H19 (a3.add (i4.toNat * 1)) = some (.int .i64 x17) ∧ (
  iteB (x17 == k) (
  letH (H19.push (.cells #[.int .i64 k] t_int (0, 0))) (fun H20 : Heap =>
  runH Try.prog (Builtin.append_ #[t_sl_int, t_sl_int] t_sl_int #[.slice sorted1.p sorted1.n sorted1.c, .slice (some (⟨H19.size, 0, none⟩ : Addr)) 1 1]) H20 (fun v4 H21 =>
  ∃ sorted2 : Sl, v4 = .slice sorted2.p sorted2.n sorted2.c ∧ (
  letV (IntKind.i64.wrap (i4 + (1 : Int))) (fun i5 : Int =>
  I_4 sorted2 i5 H21 ∧ M_4 sorted2 i5 H21 < M_4 sorted1 i4 H19))))) (
  letV (IntKind.i64.wrap (i4 + (1 : Int))) (fun i6 : Int =>
  I_4 sorted1 i6 H19 ∧ M_4 sorted1 i6 H19 < M_4 sorted1 i4 H19)))))) (
  letV (IntKind.i64.wrap (k - (1 : Int))) (fun k1 : Int =>
  I_3 sorted1 k1 H19 ∧ M_3 sorted1 k1 H19 < M_3 sorted k H18))

def F_law21_AllocateIsOptimal_r5 (R : Value → Heap → Prop) (H : Heap) (free2 : Sl) (items2 : Sl) (H15 : Heap) (x16 : Int) (I_3 : Sl → Int → Heap → Prop) (M_3 : Sl → Int → Heap → Nat) (sorted : Sl) (k : Int) (H18 : Heap) : Prop :=
  iteB (decide (k > (0 : Int))) (
  ∃ I_4 : Sl → Int → Heap → Prop, ∃ M_4 : Sl → Int → Heap → Nat, I_4 sorted (0 : Int) H18 ∧ (∀ sorted1 : Sl, ∀ i4 : Int, ∀ H19 : Heap, I_4 sorted1 i4 H19 → F_law21_AllocateIsOptimal_r4 items2 I_3 M_3 sorted k H18 I_4 M_4 sorted1 i4 H19)) (
  CallsH Try.prog n_law21_fits #[.pointer (some (⟨H.size, 0, none⟩ : Addr)), .slice sorted.p sorted.n sorted.c] H18 (fun v5 H22 =>
  ∃ x18 : Bool, v5 = .bool x18 ∧ (
  iteB x18 (
  CallsH Try.prog n_law21_awake #[] H22 (fun v6 H23 =>
  ∃ x19 : Bool, v6 = .bool x19 ∧ (
  iteB x19 (
  R (.bool (x16 == (0 : Int))) H23) (
  R (.bool false) H23)))) (
  CallsH Try.prog n_law21_awake #[] H22 (fun v7 H24 =>
  ∃ x20 : Bool, v7 = .bool x20 ∧ (
  iteB x20 (
  iteB (x16 == (19 : Int)) (
  ∃ x21 : Int, rd H24 (⟨H15.size, 0, none⟩ : Addr) = some (.int .i64 x21) ∧ ∃ x22 : Int, rd H24 ((⟨H15.size, 0, none⟩ : Addr).add 1) = some (.int .i64 x22) ∧ ∃ x23 : Int, rd H24 ((⟨H15.size, 0, none⟩ : Addr).add 2) = some (.int .u64 x23) ∧ ∃ x24 : Int, rd H24 ((⟨H15.size, 0, none⟩ : Addr).add 3) = some (.int .u64 x24) ∧ (
  CallsH Try.prog n_allocate_Refutes #[.slice free2.p free2.n free2.c, .slice items2.p items2.n items2.c, .agg #[.int .i64 x21, .int .i64 x22, .int .u64 x23, .int .u64 x24]] H24 (fun v8 H25 =>
  ∃ x25 : Bool, v8 = .bool x25 ∧ (
  R (.bool x25) H25)))) (
  R (.bool false) H24)) (
  R (.bool false) H24)))))))

def F_law21_AllocateIsOptimal_k6 (R : Value → Heap → Prop) (H : Heap) (free2 : Sl) (items2 : Sl) (H14 : Heap) : Prop :=
  CallsH Try.prog n_allocate_Place #[.slice free2.p free2.n free2.c, .slice items2.p items2.n items2.c] H14 (fun v3 H15 =>
  ∃ x11 : Sl, ∃ x12 : Int, ∃ x13 : Int, ∃ x14 : Int, ∃ x15 : Int, ∃ x16 : Int, v3 = .tuple #[.slice x11.p x11.n x11.c, .agg #[.int .i64 x12, .int .i64 x13, .int .u64 x14, .int .u64 x15], .int .i64 x16] ∧ (
  letH (H15.push (.cells #[.int .i64 (0 : Int), .int .i64 (0 : Int), .int .u64 (0 : Int), .int .u64 (0 : Int)] t_api_Certificate (0, 0))) (fun H16 : Heap =>
  okRow H16 (⟨H15.size, 0, none⟩ : Addr) 4 ∧ (
  letH (wrs H16 (⟨H15.size, 0, none⟩ : Addr) [.int .i64 x12, .int .i64 x13, .int .u64 x14, .int .u64 x15]) (fun H17 : Heap =>
  ∃ I_3 : Sl → Int → Heap → Prop, ∃ M_3 : Sl → Int → Heap → Nat, I_3 (Sl.mk none 0 0) (5 : Int) H17 ∧ (∀ sorted : Sl, ∀ k : Int, ∀ H18 : Heap, I_3 sorted k H18 → F_law21_AllocateIsOptimal_r5 R H free2 items2 H15 x16 I_3 M_3 sorted k H18))))))

def F_law21_AllocateIsOptimal_k7 (R : Value → Heap → Prop) (H : Heap) (s : Sl) (free2 : Sl) (H9 : Heap) : Prop :=
  ∃ J_1 : Sl → Heap → Prop, (
  ∃ I_2 : Sl → Int → Heap → Prop, ∃ M_2 : Sl → Int → Heap → Nat, I_2 (Sl.mk none 0 0) (0 : Int) H9 ∧ (∀ items : Sl, ∀ i2 : Int, ∀ H10 : Heap, I_2 items i2 H10 → F_law21_AllocateIsOptimal_r3 s J_1 I_2 M_2 items i2 H10)) ∧ (∀ items2 : Sl, ∀ H14 : Heap, J_1 items2 H14 → F_law21_AllocateIsOptimal_k6 R H free2 items2 H14)

def F_law21_AllocateIsOptimal (R : Value → Heap → Prop) (l : Sl) (s : Sl) (H : Heap) : Prop :=
  letH (H.push (.cells #[.bool false, .bool false, .bool false, .bool false, .bool false, .bool false, .bool false, .bool false, .bool false, .bool false, .bool false, .bool false, .bool false, .bool false, .bool false, .bool false, .bool false, .bool false, .bool false, .bool false, .bool false, .bool false, .bool false, .bool false, .bool false, .bool false, .bool false, .bool false, .bool false, .bool false, .bool false, .bool false, .bool false, .bool false, .bool false, .bool false, .bool false, .bool false, .bool false, .bool false, .bool false, .bool false, .bool false, .bool false, .bool false, .bool false, .bool false, .bool false, .bool false, .bool false, .bool false, .bool false, .bool false, .bool false, .bool false, .bool false, .bool false, .bool false, .bool false, .bool false, .bool false, .bool false, .bool false, .bool false, .bool false, .bool false, .bool false, .bool false, .bool false, .bool false, .bool false, .bool false, .bool false, .bool false, .bool false, .bool false, .bool false, .bool false, .bool false, .bool false, .bool false, .bool false, .bool false, .bool false, .bool false, .bool false, .bool false, .bool false, .bool false, .bool false, .bool false, .bool false, .bool false, .bool false, .bool false, .bool false, .bool false, .bool false, .bool false, .bool false, .bool false, .bool false, .bool false, .bool false, .bool false, .bool false, .bool false, .bool false, .bool false, .bool false, .bool false, .bool false, .bool false, .bool false, .bool false, .bool false, .bool false, .bool false, .bool false, .bool false, .bool false, .bool false, .bool false, .bool false, .bool false, .bool false, .bool false, .bool false] t_128_bool (0, 0))) (fun H1 : Heap =>
  ∃ J_ : Sl → Heap → Prop, (
  ∃ I_ : Sl → Int → Heap → Prop, ∃ M_ : Sl → Int → Heap → Nat, I_ (Sl.mk none 0 0) (0 : Int) H1 ∧ (∀ free : Sl, ∀ i : Int, ∀ H2 : Heap, I_ free i H2 → F_law21_AllocateIsOptimal_r2 H l J_ I_ M_ free i H2)) ∧ (∀ free2 : Sl, ∀ H9 : Heap, J_ free2 H9 → F_law21_AllocateIsOptimal_k7 R H s free2 H9))

theorem F_law21_AllocateIsOptimal_eq (R : Value → Heap → Prop) (l : Sl) (s : Sl) (H : Heap) : wpF Try.prog Try.f5 [(5, .slice none 0 0), (7, .int .i64 0), (9, .int .u64 0), (10, .slice none 0 0), (11, .int .i64 0), (15, .slice none 0 0), (16, .int .i64 0), (17, .int .i64 0)] [(12, [5], [1, 6]), (17, [10], [5, 6])] [(4, [5, 7], [0, 1, 6]), (9, [9], [0, 1, 5, 6, 7, 8]), (14, [10, 11], [1, 5, 6]), (20, [15, 16], [5, 6, 10, 13, 14]), (23, [15, 17], [5, 6, 10, 13, 14, 16])] [17] [.slice l.p l.n l.c, .slice s.p s.n s.c] H R = F_law21_AllocateIsOptimal R l s H := by kernel_rfl

theorem F_law21_AllocateIsOptimal_ok {R : Value → Heap → Prop} (l : Sl) (s : Sl) {H : Heap} (h : F_law21_AllocateIsOptimal R l s H) : CallsH Try.prog n_law21_AllocateIsOptimal #[.slice l.p l.n l.c, .slice s.p s.n s.c] H R :=
  wpF_ok Try.func5 (F_law21_AllocateIsOptimal_eq R l s H) h

/-! ### 6: platformfw/platformfwlaw21.AllocateRefutationIsSound -/

def F_law21_AllocateRefutationIsSound_r1 (R : Value → Heap → Prop) (free : Sl) (items : Sl) (level1 : Int) (I_ : Int → Int → Heap → Prop) (M_ : Int → Int → Heap → Nat) (demand : Int) (i : Int) (H10 : Heap) : Prop :=
  iteB (decide (i < (items.n : Int))) (
  0 ≤ i ∧ i < (items.n : Int) ∧ (unSome items.p (fun a =>
  ∃ x9 : Int, rd H10 (a.add (i.toNat * 1)) = some (.int .i64 x9) ∧ (
  iteB (decide (x9 ≥ level1)) (
  0 ≤ i ∧ i < (items.n : Int) ∧ (unSome items.p (fun a1 =>
  ∃ x10 : Int, rd H10 (a1.add (i.toNat * 1)) = some (.int .i64 x10) ∧ (
  0 ≤ (IntKind.u64.wrap x10) ∧ (
  letV (IntKind.u64.wrap (demand + (IntKind.u64.wrap ((1 : Int) * 2 ^ (min (IntKind.u64.wrap x10).toNat IntKind.u64.bits))))) (fun demand1 : Int =>
  letV (IntKind.i64.wrap (i + (1 : Int))) (fun i1 : Int =>
  I_ demand1 i1 H10 ∧ M_ demand1 i1 H10 < M_ demand i H10))))))) (
  letV (IntKind.i64.wrap (i + (1 : Int))) (fun i2 : Int =>
  I_ demand i2 H10 ∧ M_ demand i2 H10 < M_ demand i H10)))))) (
  CallsH Try.prog n_allocate_Blocks #[.slice free.p free.n free.c, .int .i64 level1] H10 (fun v6 H11 =>
  ∃ x11 : Int, v6 = .int .u64 x11 ∧ (
  CallsH Try.prog n_allocate_Refutes #[.slice free.p free.n free.c, .slice items.p items.n items.c, .agg #[.int .i64 (0 : Int), .int .i64 level1, .int .u64 demand, .int .u64 x11]] H11 (fun v7 H12 =>
  ∃ x12 : Bool, v7 = .bool x12 ∧ (
  R (.bool (!x12)) H12)))))

def F_law21_AllocateRefutationIsSound_k2 (R : Value → Heap → Prop) (level : Int) (free : Sl) (items : Sl) (x7 : Bool) (H7 : Heap) : Prop :=
  iteB x7 (
  CallsH Try.prog n_law21_awake #[] H7 (fun v4 H8 =>
  ∃ x8 : Bool, v4 = .bool x8 ∧ (
  R (.bool x8) H8))) (
  CallsH Try.prog n_help_Mod #[.int .i64 level, .int .i64 (10 : Int)] H7 (fun v5 H9 =>
  ∃ level1 : Int, v5 = .int .i64 level1 ∧ (
  ∃ I_ : Int → Int → Heap → Prop, ∃ M_ : Int → Int → Heap → Nat, I_ (0 : Int) (0 : Int) H9 ∧ (∀ demand : Int, ∀ i : Int, ∀ H10 : Heap, I_ demand i H10 → F_law21_AllocateRefutationIsSound_r1 R free items level1 I_ M_ demand i H10))))

def F_law21_AllocateRefutationIsSound (R : Value → Heap → Prop) (l : Sl) (s : Sl) (level : Int) (H : Heap) : Prop :=
  CallsH Try.prog n_law21_space #[.slice l.p l.n l.c] H (fun v H1 =>
  ∃ free : Sl, v = .slice free.p free.n free.c ∧ (
  CallsH Try.prog n_law21_sizes #[.slice s.p s.n s.c] H1 (fun v1 H2 =>
  ∃ items : Sl, v1 = .slice items.p items.n items.c ∧ (
  CallsH Try.prog n_allocate_Place #[.slice free.p free.n free.c, .slice items.p items.n items.c] H2 (fun v2 H3 =>
  ∃ x : Sl, ∃ x1 : Int, ∃ x2 : Int, ∃ x3 : Int, ∃ x4 : Int, ∃ x5 : Int, v2 = .tuple #[.slice x.p x.n x.c, .agg #[.int .i64 x1, .int .i64 x2, .int .u64 x3, .int .u64 x4], .int .i64 x5] ∧ (
  letH (H3.push (.cells #[.int .i64 (0 : Int), .int .i64 (0 : Int), .int .u64 (0 : Int), .int .u64 (0 : Int)] t_api_Certificate (0, 0))) (fun H4 : Heap =>
  okRow H4 (⟨H3.size, 0, none⟩ : Addr) 4 ∧ (
  letH (wrs H4 (⟨H3.size, 0, none⟩ : Addr) [.int .i64 x1, .int .i64 x2, .int .u64 x3, .int .u64 x4]) (fun H5 : Heap =>
  ∃ J_ : Bool → Heap → Prop, (
  CallsH Try.prog n_law21_awake #[] H5 (fun v3 H6 =>
  ∃ x6 : Bool, v3 = .bool x6 ∧ (
  iteB (!x6) (
  J_ true H6) (
  J_ (x5 != (0 : Int)) H6)))) ∧ (∀ x7 : Bool, ∀ H7 : Heap, J_ x7 H7 → F_law21_AllocateRefutationIsSound_k2 R level free items x7 H7))))))))))

theorem F_law21_AllocateRefutationIsSound_eq (R : Value → Heap → Prop) (l : Sl) (s : Sl) (level : Int) (H : Heap) : wpF Try.prog Try.f6 [(12, .int .u64 0), (13, .int .i64 0), (30, .bool false)] [(4, [30], [2, 7, 8])] [(8, [12, 13], [2, 7, 8])] [17] [.slice l.p l.n l.c, .slice s.p s.n s.c, .int .i64 level] H R = F_law21_AllocateRefutationIsSound R l s level H := by kernel_rfl

theorem F_law21_AllocateRefutationIsSound_ok {R : Value → Heap → Prop} (l : Sl) (s : Sl) (level : Int) {H : Heap} (h : F_law21_AllocateRefutationIsSound R l s level H) : CallsH Try.prog n_law21_AllocateRefutationIsSound #[.slice l.p l.n l.c, .slice s.p s.n s.c, .int .i64 level] H R :=
  wpF_ok Try.func6 (F_law21_AllocateRefutationIsSound_eq R l s level H) h

/-! ### 7: platformfw/platformfwlaw21.AllocateFree -/

def F_law21_AllocateFree_r1 (a : Sl) (H11 : Heap) (I_ : Int → Heap → Prop) (M_ : Int → Heap → Nat) (i : Int) (H14 : Heap) (I_1 : Int → Heap → Prop) (M_1 : Int → Heap → Nat) (x9 : Int) (H15 : Heap) : Prop :=
  0 ≤ i ∧ i < (a.n : Int) ∧ (unSome a.p (fun a2 =>
  ∃ x10 : Int, rd H15 (a2.add (i.toNat * 2)) = some (.int .u64 x10) ∧ (
  0 ≤ i ∧ i < (a.n : Int) ∧ (unSome a.p (fun a3 =>
  ∃ x11 : Int, rd H15 ((a3.add (i.toNat * 2)).add 1) = some (.int .u64 x11) ∧ (
  iteB (decide (x9 < (IntKind.u64.wrap (x10 + x11)))) (
  0 ≤ x9 ∧ x9 < ((512 : Nat) : Int) ∧ (okRow H15 ((⟨H11.size, 0, none⟩ : Addr).add (x9.toNat * 1)) 1 ∧ (
  letH (wrs H15 ((⟨H11.size, 0, none⟩ : Addr).add (x9.toNat * 1)) [.bool true]) (fun H16 : Heap =>
  letV (IntKind.u64.wrap (x9 + (1 : Int))) (fun x12 : Int =>
  I_1 x12 H16 ∧ M_1 x12 H16 < M_1 x9 H15))))) (
  letV (IntKind.i64.wrap (i + (1 : Int))) (fun i1 : Int =>
  I_ i1 H15 ∧ M_ i1 H15 < M_ i H14))))))))

def F_law21_AllocateFree_r2 (b : Sl) (H11 : Heap) (I_2 : Int → Heap → Prop) (M_2 : Int → Heap → Nat) (i2 : Int) (H17 : Heap) (I_3 : Int → Heap → Prop) (M_3 : Int → Heap → Nat) (x14 : Int) (H18 : Heap) : Prop :=
  0 ≤ i2 ∧ i2 < (b.n : Int) ∧ (unSome b.p (fun a5 =>
  ∃ x15 : Int, rd H18 (a5.add (i2.toNat * 2)) = some (.int .u64 x15) ∧ (
  0 ≤ i2 ∧ i2 < (b.n : Int) ∧ (unSome b.p (fun a6 =>
  ∃ x16 : Int, rd H18 ((a6.add (i2.toNat * 2)).add 1) = some (.int .u64 x16) ∧ (
  iteB (decide (x14 < (IntKind.u64.wrap (x15 + x16)))) (
  0 ≤ x14 ∧ x14 < ((512 : Nat) : Int) ∧ (okRow H18 ((⟨H11.size, 0, none⟩ : Addr).add (x14.toNat * 1)) 1 ∧ (
  letH (wrs H18 ((⟨H11.size, 0, none⟩ : Addr).add (x14.toNat * 1)) [.bool false]) (fun H19 : Heap =>
  letV (IntKind.u64.wrap (x14 + (1 : Int))) (fun x17 : Int =>
  I_3 x17 H19 ∧ M_3 x17 H19 < M_3 x14 H18))))) (
  letV (IntKind.i64.wrap (i2 + (1 : Int))) (fun i3 : Int =>
  I_2 i3 H18 ∧ M_2 i3 H18 < M_2 i2 H17))))))))

def F_law21_AllocateFree_r3 (free : Sl) (H12 : Heap) (I_4 : Int → Heap → Prop) (M_4 : Int → Heap → Nat) (i4 : Int) (H20 : Heap) (I_5 : Int → Heap → Prop) (M_5 : Int → Heap → Nat) (x26 : Int) (H22 : Heap) : Prop :=
  0 ≤ i4 ∧ i4 < (free.n : Int) ∧ (unSome free.p (fun a15 =>
  ∃ x27 : Int, rd H22 (a15.add (i4.toNat * 2)) = some (.int .u64 x27) ∧ (
  0 ≤ i4 ∧ i4 < (free.n : Int) ∧ (unSome free.p (fun a16 =>
  ∃ x28 : Int, rd H22 ((a16.add (i4.toNat * 2)).add 1) = some (.int .u64 x28) ∧ (
  iteB (decide (x26 < (IntKind.u64.wrap (x27 + x28)))) (
  0 ≤ x26 ∧ x26 < ((512 : Nat) : Int) ∧ (okRow H22 ((⟨H12.size, 0, none⟩ : Addr).add (x26.toNat * 1)) 1 ∧ (
  letH (wrs H22 ((⟨H12.size, 0, none⟩ : Addr).add (x26.toNat * 1)) [.bool true]) (fun H23 : Heap =>
  letV (IntKind.u64.wrap (x26 + (1 : Int))) (fun x29 : Int =>
  I_5 x29 H23 ∧ M_5 x29 H23 < M_5 x26 H22))))) (
  letV (IntKind.i64.wrap (i4 + (1 : Int))) (fun i5 : Int =>
  I_4 i5 H22 ∧ M_4 i5 H22 < M_4 i4 H20))))))))

def F_law21_AllocateFree_k4 (free : Sl) (H12 : Heap) (I_4 : Int → Heap → Prop) (M_4 : Int → Heap → Nat) (i4 : Int) (H20 : Heap) (H21 : Heap) : Prop :=
  0 ≤ i4 ∧ i4 < (free.n : Int) ∧ (unSome free.p (fun a14 =>
  ∃ x25 : Int, rd H21 (a14.add (i4.toNat * 2)) = some (.int .u64 x25) ∧ (
  ∃ I_5 : Int → Heap → Prop, ∃ M_5 : Int → Heap → Nat, I_5 x25 H21 ∧ (∀ x26 : Int, ∀ H22 : Heap, I_5 x26 H22 → F_law21_AllocateFree_r3 free H12 I_4 M_4 i4 H20 I_5 M_5 x26 H22))))

def F_law21_AllocateFree_r5 (H11 : Heap) (s : Int) (n : Int) (atv : Int) (J_1 : Int → Heap → Prop) (I_8 : Bool → Int → Heap → Prop) (M_8 : Bool → Int → Heap → Nat) (all : Bool) (x30 : Int) (H26 : Heap) : Prop :=
  0 ≤ (IntKind.u64.wrap s) ∧ (
  iteB (decide (x30 < (IntKind.i64.wrap (atv + (IntKind.i64.wrap ((1 : Int) * 2 ^ (min (IntKind.u64.wrap s).toNat IntKind.i64.bits))))))) (
  iteB all (
  0 ≤ x30 ∧ x30 < ((512 : Nat) : Int) ∧ (∃ x31 : Bool, rd H26 ((⟨H11.size, 0, none⟩ : Addr).add (x30.toNat * 1)) = some (.bool x31) ∧ (
  letV (IntKind.i64.wrap (x30 + (1 : Int))) (fun x32 : Int =>
  I_8 x31 x32 H26 ∧ M_8 x31 x32 H26 < M_8 all x30 H26)))) (
  letV (IntKind.i64.wrap (x30 + (1 : Int))) (fun x33 : Int =>
  I_8 false x33 H26 ∧ M_8 false x33 H26 < M_8 all x30 H26))) (
  iteB all (
  letV (IntKind.u64.wrap (n + (1 : Int))) (fun n1 : Int =>
  J_1 n1 H26)) (
  J_1 n H26)))

def F_law21_AllocateFree_k6 (s : Int) (I_7 : Int → Int → Heap → Prop) (M_7 : Int → Int → Heap → Nat) (n : Int) (atv : Int) (H25 : Heap) (n2 : Int) (H27 : Heap) : Prop :=
  0 ≤ (IntKind.u64.wrap s) ∧ (
  letV (IntKind.i64.wrap (atv + (IntKind.i64.wrap ((1 : Int) * 2 ^ (min (IntKind.u64.wrap s).toNat IntKind.i64.bits))))) (fun atv1 : Int =>
  I_7 n2 atv1 H27 ∧ M_7 n2 atv1 H27 < M_7 n atv H25))

def F_law21_AllocateFree_r7 (R : Value → Heap → Prop) (free : Sl) (H11 : Heap) (I_6 : Int → Heap → Prop) (M_6 : Int → Heap → Nat) (s : Int) (H24 : Heap) (I_7 : Int → Int → Heap → Prop) (M_7 : Int → Int → Heap → Nat) (n : Int) (atv : Int) (H25 : Heap) : Prop :=
  iteB (decide (atv < (512 : Int))) (
  ∃ J_1 : Int → Heap → Prop, (
  ∃ I_8 : Bool → Int → Heap → Prop, ∃ M_8 : Bool → Int → Heap → Nat, I_8 true atv H25 ∧ (∀ all : Bool, ∀ x30 : Int, ∀ H26 : Heap, I_8 all x30 H26 → F_law21_AllocateFree_r5 H11 s n atv J_1 I_8 M_8 all x30 H26)) ∧ (∀ n2 : Int, ∀ H27 : Heap, J_1 n2 H27 → F_law21_AllocateFree_k6 s I_7 M_7 n atv H25 n2 H27)) (
  CallsH Try.prog n_allocate_Blocks #[.slice free.p free.n free.c, .int .i64 s] H25 (fun v11 H28 =>
  ∃ x34 : Int, v11 = .int .u64 x34 ∧ (
  iteB (x34 != n) (
  R (.bool false) H28) (
  letV (IntKind.i64.wrap (s + (1 : Int))) (fun s1 : Int =>
  I_6 s1 H28 ∧ M_6 s1 H28 < M_6 s H24)))))

def F_law21_AllocateFree_r8 (R : Value → Heap → Prop) (free : Sl) (H11 : Heap) (I_6 : Int → Heap → Prop) (M_6 : Int → Heap → Nat) (s : Int) (H24 : Heap) : Prop :=
  iteB (decide (s < (9 : Int))) (
  ∃ I_7 : Int → Int → Heap → Prop, ∃ M_7 : Int → Int → Heap → Nat, I_7 (0 : Int) (0 : Int) H24 ∧ (∀ n : Int, ∀ atv : Int, ∀ H25 : Heap, I_7 n atv H25 → F_law21_AllocateFree_r7 R free H11 I_6 M_6 s H24 I_7 M_7 n atv H25)) (
  R (.bool true) H24)

def F_law21_AllocateFree_r9 (R : Value → Heap → Prop) (v : Value) (free : Sl) (H11 : Heap) (H12 : Heap) (I_4 : Int → Heap → Prop) (M_4 : Int → Heap → Nat) (i4 : Int) (H20 : Heap) : Prop :=
  iteB (decide (i4 < (free.n : Int))) (
  ∃ J_ : Heap → Prop, (
  0 ≤ i4 ∧ i4 < (free.n : Int) ∧ (unSome free.p (fun a7 =>
  ∃ x18 : Int, rd H20 (a7.add (i4.toNat * 2)) = some (.int .u64 x18) ∧ (
  iteB (decide (x18 ≥ (512 : Int))) (
  R (.bool false) H20) (
  0 ≤ i4 ∧ i4 < (free.n : Int) ∧ (unSome free.p (fun a8 =>
  ∃ x19 : Int, rd H20 ((a8.add (i4.toNat * 2)).add 1) = some (.int .u64 x19) ∧ (
  0 ≤ i4 ∧ i4 < (free.n : Int) ∧ (unSome free.p (fun a9 =>
  ∃ x20 : Int, rd H20 (a9.add (i4.toNat * 2)) = some (.int .u64 x20) ∧ (
  iteB (decide (x19 > (IntKind.u64.wrap ((512 : Int) - x20)))) (
  R (.bool false) H20) (
  0 ≤ i4 ∧ i4 < (free.n : Int) ∧ (unSome free.p (fun a10 =>
  ∃ x21 : Int, rd H20 ((a10.add (i4.toNat * 2)).add 1) = some (.int .u64 x21) ∧ (
  iteB (x21 == (0 : Int)) (
  R (.bool false) H20) (
  iteB (decide (i4 > (0 : Int))) (
  0 ≤ i4 ∧ i4 < (free.n : Int) ∧ (unSome free.p (fun a11 =>
  ∃ x22 : Int, rd H20 (a11.add (i4.toNat * 2)) = some (.int .u64 x22) ∧ (
  0 ≤ (IntKind.i64.wrap (i4 - (1 : Int))) ∧ (IntKind.i64.wrap (i4 - (1 : Int))) < (free.n : Int) ∧ (unSome free.p (fun a12 =>
  ∃ x23 : Int, rd H20 (a12.add ((IntKind.i64.wrap (i4 - (1 : Int))).toNat * 2)) = some (.int .u64 x23) ∧ (
  0 ≤ (IntKind.i64.wrap (i4 - (1 : Int))) ∧ (IntKind.i64.wrap (i4 - (1 : Int))) < (free.n : Int) ∧ (unSome free.p (fun a13 =>
  ∃ x24 : Int, rd H20 ((a13.add ((IntKind.i64.wrap (i4 - (1 : Int))).toNat * 2)).add 1) = some (.int .u64 x24) ∧ (
  iteB (decide (x22 ≤ (IntKind.u64.wrap (x23 + x24)))) (
  R (.bool false) H20) (
  J_ H20))))))))))) (
  J_ H20))))))))))))))))) ∧ (∀ H21 : Heap, J_ H21 → F_law21_AllocateFree_k4 free H12 I_4 M_4 i4 H20 H21)) (
  ∃ cells : List Value, cells.length = 512 ∧ (∀ i v, cells[i]? = some v → rd H20 ((⟨H12.size, 0, none⟩ : Addr).add i) = some v) ∧ (
  ∃ cells1 : List Value, cells1.length = 512 ∧ (∀ i v, cells1[i]? = some v → rd H20 ((⟨H11.size, 0, none⟩ : Addr).add i) = some v) ∧ (
  ∃ bf : Nat → Bool, ∃ bg : Nat → Bool, cells.toArray = (boolsV 512 bf).toArray ∧ cells1.toArray = (boolsV 512 bg).toArray ∧ (
  iteB (!(eqBools 512 bf bg)) (
  R (.bool false) H20) (
  ∃ I_6 : Int → Heap → Prop, ∃ M_6 : Int → Heap → Nat, I_6 (0 : Int) H20 ∧ (∀ s : Int, ∀ H24 : Heap, I_6 s H24 → F_law21_AllocateFree_r8 R free H11 I_6 M_6 s H24))))))

def F_law21_AllocateFree_r10 (R : Value → Heap → Prop) (v : Value) (b : Sl) (free : Sl) (H11 : Heap) (H12 : Heap) (I_2 : Int → Heap → Prop) (M_2 : Int → Heap → Nat) (i2 : Int) (H17 : Heap) : Prop :=
  iteB (decide (i2 < (b.n : Int))) (
  0 ≤ i2 ∧ i2 < (b.n : Int) ∧ (unSome b.p (fun a4 =>
  ∃ x13 : Int, rd H17 (a4.add (i2.toNat * 2)) = some (.int .u64 x13) ∧ (
  ∃ I_3 : Int → Heap → Prop, ∃ M_3 : Int → Heap → Nat, I_3 x13 H17 ∧ (∀ x14 : Int, ∀ H18 : Heap, I_3 x14 H18 → F_law21_AllocateFree_r2 b H11 I_2 M_2 i2 H17 I_3 M_3 x14 H18))))) (
  ∃ I_4 : Int → Heap → Prop, ∃ M_4 : Int → Heap → Nat, I_4 (0 : Int) H17 ∧ (∀ i4 : Int, ∀ H20 : Heap, I_4 i4 H20 → F_law21_AllocateFree_r9 R v free H11 H12 I_4 M_4 i4 H20))

def F_law21_AllocateFree_r11 (R : Value → Heap → Prop) (v : Value) (a : Sl) (b : Sl) (free : Sl) (H11 : Heap) (H12 : Heap) (I_ : Int → Heap → Prop) (M_ : Int → Heap → Nat) (i : Int) (H14 : Heap) : Prop :=
  iteB (decide (i < (a.n : Int))) (
  0 ≤ i ∧ i < (a.n : Int) ∧ (unSome a.p (fun a1 =>
  ∃ x8 : Int, rd H14 (a1.add (i.toNat * 2)) = some (.int .u64 x8) ∧ (
  ∃ I_1 : Int → Heap → Prop, ∃ M_1 : Int → Heap → Nat, I_1 x8 H14 ∧ (∀ x9 : Int, ∀ H15 : Heap, I_1 x9 H15 → F_law21_AllocateFree_r1 a H11 I_ M_ i H14 I_1 M_1 x9 H15))))) (
  ∃ I_2 : Int → Heap → Prop, ∃ M_2 : Int → Heap → Nat, I_2 (0 : Int) H14 ∧ (∀ i2 : Int, ∀ H17 : Heap, I_2 i2 H17 → F_law21_AllocateFree_r10 R v b free H11 H12 I_2 M_2 i2 H17))

def F_law21_AllocateFree (R : Value → Heap → Prop) (l : Sl) (fixed : Sl) (k : Int) (H : Heap) : Prop :=
  CallsH Try.prog n_law21_awake #[] H (fun v H1 =>
  ∃ x : Bool, v = .bool x ∧ (
  iteB (!x) (
  R (.bool false) H1) (
  CallsH Try.prog n_allocate_Free #[.slice l.p l.n l.c, .slice fixed.p fixed.n fixed.c] H1 (fun v1 H2 =>
  ∃ x1 : Sl, v1 = .slice x1.p x1.n x1.c ∧ (
  CallsH Try.prog n_ref21_Free #[.slice l.p l.n l.c, .slice fixed.p fixed.n fixed.c] H2 (fun v2 H3 =>
  ∃ x2 : Sl, v2 = .slice x2.p x2.n x2.c ∧ (
  CallsH Try.prog n_help_Equal_api_Range #[.slice x1.p x1.n x1.c, .slice x2.p x2.n x2.c] H3 (fun v3 H4 =>
  ∃ x3 : Bool, v3 = .bool x3 ∧ (
  iteB (!x3) (
  R (.bool false) H4) (
  CallsH Try.prog n_allocate_Blocks #[.slice l.p l.n l.c, .int .i64 k] H4 (fun v4 H5 =>
  ∃ x4 : Int, v4 = .int .u64 x4 ∧ (
  CallsH Try.prog n_ref21_Blocks #[.slice l.p l.n l.c, .int .i64 k] H5 (fun v5 H6 =>
  ∃ x5 : Int, v5 = .int .u64 x5 ∧ (
  iteB (x4 != x5) (
  R (.bool false) H6) (
  CallsH Try.prog n_law21_space #[.slice l.p l.n l.c] H6 (fun v6 H7 =>
  ∃ a : Sl, v6 = .slice a.p a.n a.c ∧ (
  CallsH Try.prog n_law21_space #[.slice fixed.p fixed.n fixed.c] H7 (fun v7 H8 =>
  ∃ b : Sl, v7 = .slice b.p b.n b.c ∧ (
  CallsH Try.prog n_allocate_Free #[.slice a.p a.n a.c, .slice b.p b.n b.c] H8 (fun v8 H9 =>
  ∃ free : Sl, v8 = .slice free.p free.n free.c ∧ (
  CallsH Try.prog n_ref21_Free #[.slice a.p a.n a.c, .slice b.p b.n b.c] H9 (fun v9 H10 =>
  ∃ x6 : Sl, v9 = .slice x6.p x6.n x6.c ∧ (
  CallsH Try.prog n_help_Equal_api_Range #[.slice free.p free.n free.c, .slice x6.p x6.n x6.c] H10 (fun v10 H11 =>
  ∃ x7 : Bool, v10 = .bool x7 ∧ (
  iteB (!x7) (
  R (.bool false) H11) (
  letH (H11.push (.cells #[.bool false, .bool false, .bool false, .bool false, .bool false, .bool false, .bool false, .bool false, .bool false, .bool false, .bool false, .bool false, .bool false, .bool false, .bool false, .bool false, .bool false, .bool false, .bool false, .bool false, .bool false, .bool false, .bool false, .bool false, .bool false, .bool false, .bool false, .bool false, .bool false, .bool false, .bool false, .bool false, .bool false, .bool false, .bool false, .bool false, .bool false, .bool false, .bool false, .bool false, .bool false, .bool false, .bool false, .bool false, .bool false, .bool false, .bool false, .bool false, .bool false, .bool false, .bool false, .bool false, .bool false, .bool false, .bool false, .bool false, .bool false, .bool false, .bool false, .bool false, .bool false, .bool false, .bool false, .bool false, .bool false, .bool false, .bool false, .bool false, .bool false, .bool false, .bool false, .bool false, .bool false, .bool false, .bool false, .bool false, .bool false, .bool false, .bool false, .bool false, .bool false, .bool false, .bool false, .bool false, .bool false, .bool false, .bool false, .bool false, .bool false, .bool false, .bool false, .bool false, .bool false, .bool false, .bool false, .bool false, .bool false, .bool false, .bool false, .bool false, .bool false, .bool false, .bool false, .bool false, .bool false, .bool false, .bool false, .bool false, .bool false, .bool false, .bool false, .bool false, .bool false, .bool false, .bool false, .bool false, .bool false, .bool false, .bool false, .bool false, .bool false, .bool false, .bool false, .bool false, .bool false, .bool false, .bool false, .bool false, .bool false, .bool false, .bool false, .bool false, .bool false, .bool false, .bool false, .bool false, .bool false, .bool false, .bool false, .bool false, .bool false, .bool false, .bool false, .bool false, .bool false, .bool false, .bool false, .bool false, .bool false, .bool false, .bool false, .bool false, .bool false, .bool false, .bool false, .bool false, .bool false, .bool false, .bool false, .bool false, .bool false, .bool false, .bool false, .bool false, .bool false, .bool false, .bool false, .bool false, .bool false, .bool false, .bool false, .bool false, .bool false, .bool false, .bool false, .bool false, .bool false, .bool false, .bool false, .bool false, .bool false, .bool false, .bool false, .bool false, .bool false, .bool false, .bool false, .bool false, .bool false, .bool false, .bool false, .bool false, .bool false, .bool false, .bool false, .bool false, .bool false, .bool false, .bool false, .bool false, .bool false, .bool false, .bool false, .bool false, .bool false, .bool false, .bool false, .bool false, .bool false, .bool false, .bool false, .bool false, .bool false, .bool false, .bool false, .bool false, .bool false, .bool false, .bool false, .bool false, .bool false, .bool false, .bool false, .bool false, .bool false, .bool false, .bool false, .bool false, .bool false, .bool false, .bool false, .bool false, .bool false, .bool false, .bool false, .bool false, .bool false, .bool false, .bool false, .bool false, .bool false, .bool false, .bool false, .bool false, .bool false, .bool false, .bool false, .bool false, .bool false, .bool false, .bool false, .bool false, .bool false, .bool false, .bool false, .bool false, .bool false, .bool false, .bool false, .bool false, .bool false, .bool false, .bool false, .bool false, .bool false, .bool false, .bool false, .bool false, .bool false, .bool false, .bool false, .bool false, .bool false, .bool false, .bool false, .bool false, .bool false, .bool false, .bool false, .bool false, .bool false, .bool false, .bool false, .bool false, .bool false, .bool false, .bool false, .bool false, .bool false, .bool false, .bool false, .bool false, .bool false, .bool false, .bool false, .bool false, .bool false, .bool false, .bool false, .bool false, .bool false, .bool false, .bool false, .bool false, .bool false, .bool false, .bool false, .bool false, .bool false, .bool false, .bool false, .bool false, .bool false, .bool false, .bool false, .bool false, .bool false, .bool false, .bool false, .bool false, .bool false, .bool false, .bool false, .bool false, .bool false, .bool false, .bool false, .bool false, .bool false, .bool false, .bool false, .bool false, .bool false, .bool false, .bool false, .bool false, .bool false, .bool false, .bool false, .bool false, .bool false, .bool false, .bool false, .bool false, .bool false, .bool false, .bool false, .bool false, .bool false, .bool false, .bool false, .bool false, .bool false, .bool false, .bool false, .bool false, .bool false, .bool false, .bool false, .bool false, .bool false, .bool false, .bool false, .bool false, .bool false, .bool false, .bool false, .bool false, .bool false, .bool false, .bool false, .bool false, .bool false, .bool false, .bool false, .bool false, .bool false, .bool false, .bool false, .bool false, .bool false, .bool false, .bool false, .bool false, .bool false, .bool false, .bool false, .bool false, .bool false, .bool false, .bool false, .bool false, .bool false, .bool false, .bool false, .bool false, .bool false, .bool false, .bool false, .bool false, .bool false, .bool false, .bool false, .bool false, .bool false, .bool false, .bool false, .bool false, .bool false, .bool false, .bool false, .bool false, .bool false, .bool false, .bool false, .bool false, .bool false, .bool false, .bool false, .bool false, .bool false, .bool false, .bool false, .bool false, .bool false, .bool false, .bool false, .bool false, .bool false, .bool false, .bool false, .bool false, .bool false, .bool false, .bool false, .bool false, .bool false, .bool false, .bool false, .bool false, .bool false, .bool false, .bool false, .bool false, .bool false, .bool false, .bool false, .bool false, .bool false, .bool false, .bool false, .bool false, .bool false, .bool false, .bool false, .bool false, .bool false, .bool false, .bool false, .bool false, .bool false, .bool false, .bool false, .bool false, .bool false, .bool false, .bool false, .bool false, .bool false, .bool false, .bool false, .bool false, .bool false, .bool false, .bool false, .bool false, .bool false, .bool false, .bool false, .bool false, .bool false, .bool false, .bool false, .bool false, .bool false, .bool false, .bool false, .bool false, .bool false, .bool false, .bool false, .bool false, .bool false, .bool false, .bool false, .bool false, .bool false, .bool false, .bool false, .bool false, .bool false, .bool false, .bool false, .bool false, .bool false, .bool false, .bool false, .bool false, .bool false, .bool false, .bool false, .bool false] t_512_bool (0, 0))) (fun H12 : Heap =>
  letH (H12.push (.cells #[.bool false, .bool false, .bool false, .bool false, .bool false, .bool false, .bool false, .bool false, .bool false, .bool false, .bool false, .bool false, .bool false, .bool false, .bool false, .bool false, .bool false, .bool false, .bool false, .bool false, .bool false, .bool false, .bool false, .bool false, .bool false, .bool false, .bool false, .bool false, .bool false, .bool false, .bool false, .bool false, .bool false, .bool false, .bool false, .bool false, .bool false, .bool false, .bool false, .bool false, .bool false, .bool false, .bool false, .bool false, .bool false, .bool false, .bool false, .bool false, .bool false, .bool false, .bool false, .bool false, .bool false, .bool false, .bool false, .bool false, .bool false, .bool false, .bool false, .bool false, .bool false, .bool false, .bool false, .bool false, .bool false, .bool false, .bool false, .bool false, .bool false, .bool false, .bool false, .bool false, .bool false, .bool false, .bool false, .bool false, .bool false, .bool false, .bool false, .bool false, .bool false, .bool false, .bool false, .bool false, .bool false, .bool false, .bool false, .bool false, .bool false, .bool false, .bool false, .bool false, .bool false, .bool false, .bool false, .bool false, .bool false, .bool false, .bool false, .bool false, .bool false, .bool false, .bool false, .bool false, .bool false, .bool false, .bool false, .bool false, .bool false, .bool false, .bool false, .bool false, .bool false, .bool false, .bool false, .bool false, .bool false, .bool false, .bool false, .bool false, .bool false, .bool false, .bool false, .bool false, .bool false, .bool false, .bool false, .bool false, .bool false, .bool false, .bool false, .bool false, .bool false, .bool false, .bool false, .bool false, .bool false, .bool false, .bool false, .bool false, .bool false, .bool false, .bool false, .bool false, .bool false, .bool false, .bool false, .bool false, .bool false, .bool false, .bool false, .bool false, .bool false, .bool false, .bool false, .bool false, .bool false, .bool false, .bool false, .bool false, .bool false, .bool false, .bool false, .bool false, .bool false, .bool false, .bool false, .bool false, .bool false, .bool false, .bool false, .bool false, .bool false, .bool false, .bool false, .bool false, .bool false, .bool false, .bool false, .bool false, .bool false, .bool false, .bool false, .bool false, .bool false, .bool false, .bool false, .bool false, .bool false, .bool false, .bool false, .bool false, .bool false, .bool false, .bool false, .bool false, .bool false, .bool false, .bool false, .bool false, .bool false, .bool false, .bool false, .bool false, .bool false, .bool false, .bool false, .bool false, .bool false, .bool false, .bool false, .bool false, .bool false, .bool false, .bool false, .bool false, .bool false, .bool false, .bool false, .bool false, .bool false, .bool false, .bool false, .bool false, .bool false, .bool false, .bool false, .bool false, .bool false, .bool false, .bool false, .bool false, .bool false, .bool false, .bool false, .bool false, .bool false, .bool false, .bool false, .bool false, .bool false, .bool false, .bool false, .bool false, .bool false, .bool false, .bool false, .bool false, .bool false, .bool false, .bool false, .bool false, .bool false, .bool false, .bool false, .bool false, .bool false, .bool false, .bool false, .bool false, .bool false, .bool false, .bool false, .bool false, .bool false, .bool false, .bool false, .bool false, .bool false, .bool false, .bool false, .bool false, .bool false, .bool false, .bool false, .bool false, .bool false, .bool false, .bool false, .bool false, .bool false, .bool false, .bool false, .bool false, .bool false, .bool false, .bool false, .bool false, .bool false, .bool false, .bool false, .bool false, .bool false, .bool false, .bool false, .bool false, .bool false, .bool false, .bool false, .bool false, .bool false, .bool false, .bool false, .bool false, .bool false, .bool false, .bool false, .bool false, .bool false, .bool false, .bool false, .bool false, .bool false, .bool false, .bool false, .bool false, .bool false, .bool false, .bool false, .bool false, .bool false, .bool false, .bool false, .bool false, .bool false, .bool false, .bool false, .bool false, .bool false, .bool false, .bool false, .bool false, .bool false, .bool false, .bool false, .bool false, .bool false, .bool false, .bool false, .bool false, .bool false, .bool false, .bool false, .bool false, .bool false, .bool false, .bool false, .bool false, .bool false, .bool false, .bool false, .bool false, .bool false, .bool false, .bool false, .bool false, .bool false, .bool false, .bool false, .bool false, .bool false, .bool false, .bool false, .bool false, .bool false, .bool false, .bool false, .bool false, .bool false, .bool false, .bool false, .bool false, .bool false, .bool false, .bool false, .bool false, .bool false, .bool false, .bool false, .bool false, .bool false, .bool false, .bool false, .bool false, .bool false, .bool false, .bool false, .bool false, .bool false, .bool false, .bool false, .bool false, .bool false, .bool false, .bool false, .bool false, .bool false, .bool false, .bool false, .bool false, .bool false, .bool false, .bool false, .bool false, .bool false, .bool false, .bool false, .bool false, .bool false, .bool false, .bool false, .bool false, .bool false, .bool false, .bool false, .bool false, .bool false, .bool false, .bool false, .bool false, .bool false, .bool false, .bool false, .bool false, .bool false, .bool false, .bool false, .bool false, .bool false, .bool false, .bool false, .bool false, .bool false, .bool false, .bool false, .bool false, .bool false, .bool false, .bool false, .bool false, .bool false, .bool false, .bool false, .bool false, .bool false, .bool false, .bool false, .bool false, .bool false, .bool false, .bool false, .bool false, .bool false, .bool false, .bool false, .bool false, .bool false, .bool false, .bool false, .bool false, .bool false, .bool false, .bool false, .bool false, .bool false, .bool false, .bool false, .bool false, .bool false, .bool false, .bool false, .bool false, .bool false, .bool false, .bool false, .bool false, .bool false, .bool false, .bool false, .bool false, .bool false, .bool false, .bool false, .bool false, .bool false, .bool false, .bool false, .bool false, .bool false, .bool false, .bool false, .bool false, .bool false, .bool false, .bool false, .bool false, .bool false, .bool false, .bool false, .bool false, .bool false, .bool false, .bool false, .bool false, .bool false, .bool false, .bool false, .bool false, .bool false, .bool false, .bool false, .bool false] t_512_bool (0, 0))) (fun H13 : Heap =>
  ∃ I_ : Int → Heap → Prop, ∃ M_ : Int → Heap → Nat, I_ (0 : Int) H13 ∧ (∀ i : Int, ∀ H14 : Heap, I_ i H14 → F_law21_AllocateFree_r11 R v a b free H11 H12 I_ M_ i H14)))))))))))))))))))))))))))))

theorem F_law21_AllocateFree_eq (R : Value → Heap → Prop) (l : Sl) (fixed : Sl) (k : Int) (H : Heap) : wpF Try.prog Try.f7 [(12, .int .i64 0), (13, .int .u64 0), (14, .int .i64 0), (15, .int .u64 0), (16, .int .i64 0), (17, .int .u64 0), (18, .int .i64 0), (19, .int .u64 0), (20, .int .i64 0), (21, .bool false), (22, .int .i64 0)] [(27, [], [9, 10, 11, 16]), (39, [19], [9, 10, 18, 20])] [(9, [12], [7, 8, 9, 10, 11]), (12, [13], [7, 8, 9, 10, 11, 12]), (16, [14], [8, 9, 10, 11]), (19, [15], [8, 9, 10, 11, 14]), (23, [16], [9, 10, 11]), (28, [17], [9, 10, 11, 16]), (34, [18], [9, 10]), (38, [19, 20], [9, 10, 18]), (42, [21, 22], [9, 10, 18, 19, 20])] [17] [.slice l.p l.n l.c, .slice fixed.p fixed.n fixed.c, .int .i64 k] H R = F_law21_AllocateFree R l fixed k H := by kernel_rfl

theorem F_law21_AllocateFree_ok {R : Value → Heap → Prop} (l : Sl) (fixed : Sl) (k : Int) {H : Heap} (h : F_law21_AllocateFree R l fixed k H) : CallsH Try.prog n_law21_AllocateFree #[.slice l.p l.n l.c, .slice fixed.p fixed.n fixed.c, .int .i64 k] H R :=
  wpF_ok Try.func7 (F_law21_AllocateFree_eq R l fixed k H) h

/-! ### 8: platformfw/platformfwlaw21.AllocateRefusalsAreJustified -/

def F_law21_AllocateRefusalsAreJustified_r1 (R : Value → Heap → Prop) (H3 : Heap) (H6 : Heap) (x24 : Sl) (below : Sl) (I_ : Sl → Int → Heap → Prop) (M_ : Sl → Int → Heap → Nat) (items : Sl) (i : Int) (H14 : Heap) : Prop :=
  iteB (decide (i < (below.n : Int))) (
  0 ≤ i ∧ i < (below.n : Int) ∧ (unSome below.p (fun a =>
  ∃ x37 : Int, rd H14 ((a.add (i.toNat * 4)).add 3) = some (.int .i64 x37) ∧ (
  letH (H14.push (.cells #[.int .i64 x37] t_int (0, 0))) (fun H15 : Heap =>
  runH Try.prog (Builtin.append_ #[t_sl_int, t_sl_int] t_sl_int #[.slice items.p items.n items.c, .slice (some (⟨H14.size, 0, none⟩ : Addr)) 1 1]) H15 (fun v7 H16 =>
  ∃ items1 : Sl, v7 = .slice items1.p items1.n items1.c ∧ (
  letV (IntKind.i64.wrap (i + (1 : Int))) (fun i1 : Int =>
  I_ items1 i1 H16 ∧ M_ items1 i1 H16 < M_ items i H14)))))))) (
  iteB ((x24.n : Int) == (0 : Int)) (
  ∃ x38 : Int, rd H14 (⟨H3.size, 0, none⟩ : Addr) = some (.int .i64 x38) ∧ ∃ x39 : Sl, rd H14 ((⟨H3.size, 0, none⟩ : Addr).add 1) = some (.slice x39.p x39.n x39.c) ∧ ∃ x40 : Sl, rd H14 ((⟨H3.size, 0, none⟩ : Addr).add 2) = some (.slice x40.p x40.n x40.c) ∧ ∃ x41 : Sl, rd H14 ((⟨H3.size, 0, none⟩ : Addr).add 3) = some (.slice x41.p x41.n x41.c) ∧ ∃ x42 : Sl, rd H14 ((⟨H3.size, 0, none⟩ : Addr).add 4) = some (.slice x42.p x42.n x42.c) ∧ ∃ x43 : Sl, rd H14 ((⟨H3.size, 0, none⟩ : Addr).add 5) = some (.slice x43.p x43.n x43.c) ∧ ∃ x44 : Sl, rd H14 ((⟨H3.size, 0, none⟩ : Addr).add 6) = some (.slice x44.p x44.n x44.c) ∧ ∃ x45 : Sl, rd H14 ((⟨H3.size, 0, none⟩ : Addr).add 7) = some (.slice x45.p x45.n x45.c) ∧ (
  ∃ x46 : Int, rd H14 (⟨H6.size, 0, none⟩ : Addr) = some (.int .i64 x46) ∧ (
  ∃ x47 : Int, rd H14 (⟨H6.size, 0, none⟩ : Addr) = some (.int .i64 x47) ∧ ∃ x48 : Int, rd H14 ((⟨H6.size, 0, none⟩ : Addr).add 1) = some (.int .i64 x48) ∧ ∃ x49 : Int, rd H14 ((⟨H6.size, 0, none⟩ : Addr).add 2) = some (.int .u64 x49) ∧ ∃ x50 : Int, rd H14 ((⟨H6.size, 0, none⟩ : Addr).add 3) = some (.int .u64 x50) ∧ (
  CallsH Try.prog n_ref21_Space #[.agg #[.int .i64 x38, .slice x39.p x39.n x39.c, .slice x40.p x40.n x40.c, .slice x41.p x41.n x41.c, .slice x42.p x42.n x42.c, .slice x43.p x43.n x43.c, .slice x44.p x44.n x44.c, .slice x45.p x45.n x45.c], .int .i64 x46] H14 (fun v8 H17 =>
  ∃ x51 : Sl, v8 = .slice x51.p x51.n x51.c ∧ (
  Keeps H14 H17 [((⟨H6.size, 0, none⟩ : Addr), 4)] ∧ (
  CallsH Try.prog n_allocate_Refutes #[.slice x51.p x51.n x51.c, .slice items.p items.n items.c, .agg #[.int .i64 x47, .int .i64 x48, .int .u64 x49, .int .u64 x50]] H17 (fun v9 H18 =>
  ∃ x52 : Bool, v9 = .bool x52 ∧ (
  R (.bool x52) H18))))))))) (
  R (.bool false) H14))

def F_law21_AllocateRefusalsAreJustified_k2 (R : Value → Heap → Prop) (t : Sl) (H3 : Heap) (H6 : Heap) (x24 : Sl) (x31 : Bool) (H10 : Heap) : Prop :=
  iteB x31 (
  CallsH Try.prog n_law21_awake #[] H10 (fun v4 H11 =>
  ∃ x32 : Bool, v4 = .bool x32 ∧ (
  R (.bool x32) H11))) (
  ∃ x33 : Sl, rd H10 ((⟨H3.size, 0, none⟩ : Addr).add 3) = some (.slice x33.p x33.n x33.c) ∧ (
  CallsH Try.prog n_ref18_Needs #[.slice t.p t.n t.c, .bool (decide ((x33.n : Int) > (0 : Int)))] H10 (fun v5 H12 =>
  ∃ x34 : Sl, ∃ x35 : Int, v5 = .tuple #[.slice x34.p x34.n x34.c, .int .i64 x35] ∧ (
  ∃ x36 : Int, rd H12 (⟨H6.size, 0, none⟩ : Addr) = some (.int .i64 x36) ∧ (
  CallsH Try.prog n_ref18_NeedsBelow #[.slice t.p t.n t.c, .slice x34.p x34.n x34.c, .int .i64 (-1 : Int), .int .i64 x36] H12 (fun v6 H13 =>
  ∃ below : Sl, v6 = .slice below.p below.n below.c ∧ (
  ∃ I_ : Sl → Int → Heap → Prop, ∃ M_ : Sl → Int → Heap → Nat, I_ (Sl.mk none 0 0) (0 : Int) H13 ∧ (∀ items : Sl, ∀ i : Int, ∀ H14 : Heap, I_ items i H14 → F_law21_AllocateRefusalsAreJustified_r1 R H3 H6 x24 below I_ M_ items i H14))))))))

def F_law21_AllocateRefusalsAreJustified_r3 (R : Value → Heap → Prop) (H2 : Heap) (H22 : Heap) (x69 : Sl) (below1 : Sl) (I_1 : Sl → Int → Heap → Prop) (M_1 : Sl → Int → Heap → Nat) (items2 : Sl) (i2 : Int) (H30 : Heap) : Prop :=
  iteB (decide (i2 < (below1.n : Int))) (
  0 ≤ i2 ∧ i2 < (below1.n : Int) ∧ (unSome below1.p (fun a1 =>
  ∃ x82 : Int, rd H30 ((a1.add (i2.toNat * 4)).add 3) = some (.int .i64 x82) ∧ (
  letH (H30.push (.cells #[.int .i64 x82] t_int (0, 0))) (fun H31 : Heap =>
  runH Try.prog (Builtin.append_ #[t_sl_int, t_sl_int] t_sl_int #[.slice items2.p items2.n items2.c, .slice (some (⟨H30.size, 0, none⟩ : Addr)) 1 1]) H31 (fun v16 H32 =>
  ∃ items3 : Sl, v16 = .slice items3.p items3.n items3.c ∧ (
  letV (IntKind.i64.wrap (i2 + (1 : Int))) (fun i3 : Int =>
  I_1 items3 i3 H32 ∧ M_1 items3 i3 H32 < M_1 items2 i2 H30)))))))) (
  iteB ((x69.n : Int) == (0 : Int)) (
  ∃ x83 : Int, rd H30 (⟨H2.size, 0, none⟩ : Addr) = some (.int .i64 x83) ∧ ∃ x84 : Sl, rd H30 ((⟨H2.size, 0, none⟩ : Addr).add 1) = some (.slice x84.p x84.n x84.c) ∧ ∃ x85 : Sl, rd H30 ((⟨H2.size, 0, none⟩ : Addr).add 2) = some (.slice x85.p x85.n x85.c) ∧ ∃ x86 : Sl, rd H30 ((⟨H2.size, 0, none⟩ : Addr).add 3) = some (.slice x86.p x86.n x86.c) ∧ ∃ x87 : Sl, rd H30 ((⟨H2.size, 0, none⟩ : Addr).add 4) = some (.slice x87.p x87.n x87.c) ∧ ∃ x88 : Sl, rd H30 ((⟨H2.size, 0, none⟩ : Addr).add 5) = some (.slice x88.p x88.n x88.c) ∧ ∃ x89 : Sl, rd H30 ((⟨H2.size, 0, none⟩ : Addr).add 6) = some (.slice x89.p x89.n x89.c) ∧ ∃ x90 : Sl, rd H30 ((⟨H2.size, 0, none⟩ : Addr).add 7) = some (.slice x90.p x90.n x90.c) ∧ (
  ∃ x91 : Int, rd H30 (⟨H22.size, 0, none⟩ : Addr) = some (.int .i64 x91) ∧ (
  ∃ x92 : Int, rd H30 (⟨H22.size, 0, none⟩ : Addr) = some (.int .i64 x92) ∧ ∃ x93 : Int, rd H30 ((⟨H22.size, 0, none⟩ : Addr).add 1) = some (.int .i64 x93) ∧ ∃ x94 : Int, rd H30 ((⟨H22.size, 0, none⟩ : Addr).add 2) = some (.int .u64 x94) ∧ ∃ x95 : Int, rd H30 ((⟨H22.size, 0, none⟩ : Addr).add 3) = some (.int .u64 x95) ∧ (
  CallsH Try.prog n_ref21_Space #[.agg #[.int .i64 x83, .slice x84.p x84.n x84.c, .slice x85.p x85.n x85.c, .slice x86.p x86.n x86.c, .slice x87.p x87.n x87.c, .slice x88.p x88.n x88.c, .slice x89.p x89.n x89.c, .slice x90.p x90.n x90.c], .int .i64 x91] H30 (fun v17 H33 =>
  ∃ x96 : Sl, v17 = .slice x96.p x96.n x96.c ∧ (
  Keeps H30 H33 [((⟨H22.size, 0, none⟩ : Addr), 4)] ∧ (
  CallsH Try.prog n_allocate_Refutes #[.slice x96.p x96.n x96.c, .slice items2.p items2.n items2.c, .agg #[.int .i64 x92, .int .i64 x93, .int .u64 x94, .int .u64 x95]] H33 (fun v18 H34 =>
  ∃ x97 : Bool, v18 = .bool x97 ∧ (
  R (.bool x97) H34))))))))) (
  R (.bool false) H30))

def F_law21_AllocateRefusalsAreJustified_k4 (R : Value → Heap → Prop) (H2 : Heap) (t : Sl) (H22 : Heap) (x69 : Sl) (x76 : Bool) (H26 : Heap) : Prop :=
  iteB x76 (
  CallsH Try.prog n_law21_awake #[] H26 (fun v13 H27 =>
  ∃ x77 : Bool, v13 = .bool x77 ∧ (
  R (.bool x77) H27))) (
  ∃ x78 : Sl, rd H26 ((⟨H2.size, 0, none⟩ : Addr).add 3) = some (.slice x78.p x78.n x78.c) ∧ (
  CallsH Try.prog n_ref18_Needs #[.slice t.p t.n t.c, .bool (decide ((x78.n : Int) > (0 : Int)))] H26 (fun v14 H28 =>
  ∃ x79 : Sl, ∃ x80 : Int, v14 = .tuple #[.slice x79.p x79.n x79.c, .int .i64 x80] ∧ (
  ∃ x81 : Int, rd H28 (⟨H22.size, 0, none⟩ : Addr) = some (.int .i64 x81) ∧ (
  CallsH Try.prog n_ref18_NeedsBelow #[.slice t.p t.n t.c, .slice x79.p x79.n x79.c, .int .i64 (-1 : Int), .int .i64 x81] H28 (fun v15 H29 =>
  ∃ below1 : Sl, v15 = .slice below1.p below1.n below1.c ∧ (
  ∃ I_1 : Sl → Int → Heap → Prop, ∃ M_1 : Sl → Int → Heap → Nat, I_1 (Sl.mk none 0 0) (0 : Int) H29 ∧ (∀ items2 : Sl, ∀ i2 : Int, ∀ H30 : Heap, I_1 items2 i2 H30 → F_law21_AllocateRefusalsAreJustified_r3 R H2 H22 x69 below1 I_1 M_1 items2 i2 H30))))))))

def F_law21_AllocateRefusalsAreJustified_r5 (R : Value → Heap → Prop) (H1 : Heap) (H39 : Heap) (x114 : Sl) (below2 : Sl) (I_2 : Sl → Int → Heap → Prop) (M_2 : Sl → Int → Heap → Nat) (items4 : Sl) (i4 : Int) (H47 : Heap) : Prop :=
  iteB (decide (i4 < (below2.n : Int))) (
  0 ≤ i4 ∧ i4 < (below2.n : Int) ∧ (unSome below2.p (fun a2 =>
  ∃ x127 : Int, rd H47 ((a2.add (i4.toNat * 4)).add 3) = some (.int .i64 x127) ∧ (
  letH (H47.push (.cells #[.int .i64 x127] t_int (0, 0))) (fun H48 : Heap =>
  runH Try.prog (Builtin.append_ #[t_sl_int, t_sl_int] t_sl_int #[.slice items4.p items4.n items4.c, .slice (some (⟨H47.size, 0, none⟩ : Addr)) 1 1]) H48 (fun v26 H49 =>
  ∃ items5 : Sl, v26 = .slice items5.p items5.n items5.c ∧ (
  letV (IntKind.i64.wrap (i4 + (1 : Int))) (fun i5 : Int =>
  I_2 items5 i5 H49 ∧ M_2 items5 i5 H49 < M_2 items4 i4 H47)))))))) (
  iteB ((x114.n : Int) == (0 : Int)) (
  ∃ x128 : Int, rd H47 (⟨H1.size, 0, none⟩ : Addr) = some (.int .i64 x128) ∧ ∃ x129 : Sl, rd H47 ((⟨H1.size, 0, none⟩ : Addr).add 1) = some (.slice x129.p x129.n x129.c) ∧ ∃ x130 : Sl, rd H47 ((⟨H1.size, 0, none⟩ : Addr).add 2) = some (.slice x130.p x130.n x130.c) ∧ ∃ x131 : Sl, rd H47 ((⟨H1.size, 0, none⟩ : Addr).add 3) = some (.slice x131.p x131.n x131.c) ∧ ∃ x132 : Sl, rd H47 ((⟨H1.size, 0, none⟩ : Addr).add 4) = some (.slice x132.p x132.n x132.c) ∧ ∃ x133 : Sl, rd H47 ((⟨H1.size, 0, none⟩ : Addr).add 5) = some (.slice x133.p x133.n x133.c) ∧ ∃ x134 : Sl, rd H47 ((⟨H1.size, 0, none⟩ : Addr).add 6) = some (.slice x134.p x134.n x134.c) ∧ ∃ x135 : Sl, rd H47 ((⟨H1.size, 0, none⟩ : Addr).add 7) = some (.slice x135.p x135.n x135.c) ∧ (
  ∃ x136 : Int, rd H47 (⟨H39.size, 0, none⟩ : Addr) = some (.int .i64 x136) ∧ (
  ∃ x137 : Int, rd H47 (⟨H39.size, 0, none⟩ : Addr) = some (.int .i64 x137) ∧ ∃ x138 : Int, rd H47 ((⟨H39.size, 0, none⟩ : Addr).add 1) = some (.int .i64 x138) ∧ ∃ x139 : Int, rd H47 ((⟨H39.size, 0, none⟩ : Addr).add 2) = some (.int .u64 x139) ∧ ∃ x140 : Int, rd H47 ((⟨H39.size, 0, none⟩ : Addr).add 3) = some (.int .u64 x140) ∧ (
  CallsH Try.prog n_ref21_Space #[.agg #[.int .i64 x128, .slice x129.p x129.n x129.c, .slice x130.p x130.n x130.c, .slice x131.p x131.n x131.c, .slice x132.p x132.n x132.c, .slice x133.p x133.n x133.c, .slice x134.p x134.n x134.c, .slice x135.p x135.n x135.c], .int .i64 x136] H47 (fun v27 H50 =>
  ∃ x141 : Sl, v27 = .slice x141.p x141.n x141.c ∧ (
  Keeps H47 H50 [((⟨H39.size, 0, none⟩ : Addr), 4)] ∧ (
  CallsH Try.prog n_allocate_Refutes #[.slice x141.p x141.n x141.c, .slice items4.p items4.n items4.c, .agg #[.int .i64 x137, .int .i64 x138, .int .u64 x139, .int .u64 x140]] H50 (fun v28 H51 =>
  ∃ x142 : Bool, v28 = .bool x142 ∧ (
  R (.bool x142) H51))))))))) (
  R (.bool false) H47))

def F_law21_AllocateRefusalsAreJustified_k6 (R : Value → Heap → Prop) (H1 : Heap) (t1 : Sl) (H39 : Heap) (x114 : Sl) (x121 : Bool) (H43 : Heap) : Prop :=
  iteB x121 (
  CallsH Try.prog n_law21_awake #[] H43 (fun v23 H44 =>
  ∃ x122 : Bool, v23 = .bool x122 ∧ (
  R (.bool x122) H44))) (
  ∃ x123 : Sl, rd H43 ((⟨H1.size, 0, none⟩ : Addr).add 3) = some (.slice x123.p x123.n x123.c) ∧ (
  CallsH Try.prog n_ref18_Needs #[.slice t1.p t1.n t1.c, .bool (decide ((x123.n : Int) > (0 : Int)))] H43 (fun v24 H45 =>
  ∃ x124 : Sl, ∃ x125 : Int, v24 = .tuple #[.slice x124.p x124.n x124.c, .int .i64 x125] ∧ (
  ∃ x126 : Int, rd H45 (⟨H39.size, 0, none⟩ : Addr) = some (.int .i64 x126) ∧ (
  CallsH Try.prog n_ref18_NeedsBelow #[.slice t1.p t1.n t1.c, .slice x124.p x124.n x124.c, .int .i64 (-1 : Int), .int .i64 x126] H45 (fun v25 H46 =>
  ∃ below2 : Sl, v25 = .slice below2.p below2.n below2.c ∧ (
  ∃ I_2 : Sl → Int → Heap → Prop, ∃ M_2 : Sl → Int → Heap → Nat, I_2 (Sl.mk none 0 0) (0 : Int) H46 ∧ (∀ items4 : Sl, ∀ i4 : Int, ∀ H47 : Heap, I_2 items4 i4 H47 → F_law21_AllocateRefusalsAreJustified_r5 R H1 H39 x114 below2 I_2 M_2 items4 i4 H47))))))))

def F_law21_AllocateRefusalsAreJustified (R : Value → Heap → Prop) (l : Sl) (h_0 : Int) (h_1 : Sl) (h_2 : Sl) (h_3 : Sl) (h_4 : Sl) (h_5 : Sl) (h_6 : Sl) (h_7 : Sl) (H : Heap) : Prop :=
  letH (H.push (.cells #[.int .i64 h_0, .slice h_1.p h_1.n h_1.c, .slice h_2.p h_2.n h_2.c, .slice h_3.p h_3.n h_3.c, .slice h_4.p h_4.n h_4.c, .slice h_5.p h_5.n h_5.c, .slice h_6.p h_6.n h_6.c, .slice h_7.p h_7.n h_7.c] t_api_Host (0, 0))) (fun H1 : Heap =>
  ∃ x : Int, rd H1 (⟨H.size, 0, none⟩ : Addr) = some (.int .i64 x) ∧ ∃ x1 : Sl, rd H1 ((⟨H.size, 0, none⟩ : Addr).add 1) = some (.slice x1.p x1.n x1.c) ∧ ∃ x2 : Sl, rd H1 ((⟨H.size, 0, none⟩ : Addr).add 2) = some (.slice x2.p x2.n x2.c) ∧ ∃ x3 : Sl, rd H1 ((⟨H.size, 0, none⟩ : Addr).add 3) = some (.slice x3.p x3.n x3.c) ∧ ∃ x4 : Sl, rd H1 ((⟨H.size, 0, none⟩ : Addr).add 4) = some (.slice x4.p x4.n x4.c) ∧ ∃ x5 : Sl, rd H1 ((⟨H.size, 0, none⟩ : Addr).add 5) = some (.slice x5.p x5.n x5.c) ∧ ∃ x6 : Sl, rd H1 ((⟨H.size, 0, none⟩ : Addr).add 6) = some (.slice x6.p x6.n x6.c) ∧ ∃ x7 : Sl, rd H1 ((⟨H.size, 0, none⟩ : Addr).add 7) = some (.slice x7.p x7.n x7.c) ∧ (
  (
  CallsH Try.prog n_gen_Topology #[.slice l.p l.n l.c, .int .i64 (24 : Int)] H1 (fun v H2 =>
  ∃ t : Sl, v = .slice t.p t.n t.c ∧ (
  Keeps H1 H2 [((⟨H.size, 0, none⟩ : Addr), 8)] ∧ (
  (
  CallsH Try.prog n_gen_Host #[.agg #[.int .i64 x, .slice x1.p x1.n x1.c, .slice x2.p x2.n x2.c, .slice x3.p x3.n x3.c, .slice x4.p x4.n x4.c, .slice x5.p x5.n x5.c, .slice x6.p x6.n x6.c, .slice x7.p x7.n x7.c]] H2 (fun v1 H3 =>
  ∃ x8 : Int, ∃ x9 : Sl, ∃ x10 : Sl, ∃ x11 : Sl, ∃ x12 : Sl, ∃ x13 : Sl, ∃ x14 : Sl, ∃ x15 : Sl, v1 = .agg #[.int .i64 x8, .slice x9.p x9.n x9.c, .slice x10.p x10.n x10.c, .slice x11.p x11.n x11.c, .slice x12.p x12.n x12.c, .slice x13.p x13.n x13.c, .slice x14.p x14.n x14.c, .slice x15.p x15.n x15.c] ∧ (
  letH (H3.push (.cells #[.int .i64 (0 : Int), .slice none 0 0, .slice none 0 0, .slice none 0 0, .slice none 0 0, .slice none 0 0, .slice none 0 0, .slice none 0 0] t_api_Host (0, 0))) (fun H4 : Heap =>
  Keeps H3 H4 [((⟨H.size, 0, none⟩ : Addr), 8)] ∧ (
  okRow H4 (⟨H3.size, 0, none⟩ : Addr) 8 ∧ (
  letH (wrs H4 (⟨H3.size, 0, none⟩ : Addr) [.int .i64 x8, .slice x9.p x9.n x9.c, .slice x10.p x10.n x10.c, .slice x11.p x11.n x11.c, .slice x12.p x12.n x12.c, .slice x13.p x13.n x13.c, .slice x14.p x14.n x14.c, .slice x15.p x15.n x15.c]) (fun H5 : Heap =>
  ∃ x16 : Int, rd H5 (⟨H3.size, 0, none⟩ : Addr) = some (.int .i64 x16) ∧ ∃ x17 : Sl, rd H5 ((⟨H3.size, 0, none⟩ : Addr).add 1) = some (.slice x17.p x17.n x17.c) ∧ ∃ x18 : Sl, rd H5 ((⟨H3.size, 0, none⟩ : Addr).add 2) = some (.slice x18.p x18.n x18.c) ∧ ∃ x19 : Sl, rd H5 ((⟨H3.size, 0, none⟩ : Addr).add 3) = some (.slice x19.p x19.n x19.c) ∧ ∃ x20 : Sl, rd H5 ((⟨H3.size, 0, none⟩ : Addr).add 4) = some (.slice x20.p x20.n x20.c) ∧ ∃ x21 : Sl, rd H5 ((⟨H3.size, 0, none⟩ : Addr).add 5) = some (.slice x21.p x21.n x21.c) ∧ ∃ x22 : Sl, rd H5 ((⟨H3.size, 0, none⟩ : Addr).add 6) = some (.slice x22.p x22.n x22.c) ∧ ∃ x23 : Sl, rd H5 ((⟨H3.size, 0, none⟩ : Addr).add 7) = some (.slice x23.p x23.n x23.c) ∧ (
  CallsH Try.prog n_allocate_Assign #[.slice t.p t.n t.c, .agg #[.int .i64 x16, .slice x17.p x17.n x17.c, .slice x18.p x18.n x18.c, .slice x19.p x19.n x19.c, .slice x20.p x20.n x20.c, .slice x21.p x21.n x21.c, .slice x22.p x22.n x22.c, .slice x23.p x23.n x23.c]] H5 (fun v2 H6 =>
  ∃ x24 : Sl, ∃ x25 : Int, ∃ x26 : Int, ∃ x27 : Int, ∃ x28 : Int, ∃ x29 : Int, v2 = .tuple #[.slice x24.p x24.n x24.c, .agg #[.int .i64 x25, .int .i64 x26, .int .u64 x27, .int .u64 x28], .int .i64 x29] ∧ (
  letH (H6.push (.cells #[.int .i64 (0 : Int), .int .i64 (0 : Int), .int .u64 (0 : Int), .int .u64 (0 : Int)] t_api_Certificate (0, 0))) (fun H7 : Heap =>
  okRow H7 (⟨H6.size, 0, none⟩ : Addr) 4 ∧ (
  letH (wrs H7 (⟨H6.size, 0, none⟩ : Addr) [.int .i64 x25, .int .i64 x26, .int .u64 x27, .int .u64 x28]) (fun H8 : Heap =>
  ∃ J_ : Bool → Heap → Prop, (
  CallsH Try.prog n_law21_awake #[] H8 (fun v3 H9 =>
  ∃ x30 : Bool, v3 = .bool x30 ∧ (
  iteB (!x30) (
  J_ true H9) (
  J_ (x29 != (19 : Int)) H9)))) ∧ (∀ x31 : Bool, ∀ H10 : Heap, J_ x31 H10 → F_law21_AllocateRefusalsAreJustified_k2 R t H3 H6 x24 x31 H10)))))))))))))) ∧ (
  letH (H2.push (.cells #[.int .i64 (0 : Int), .slice none 0 0, .slice none 0 0, .slice none 0 0, .slice none 0 0, .slice none 0 0, .slice none 0 0, .slice none 0 0] t_api_Host (0, 0))) (fun H19 : Heap =>
  Keeps H2 H19 [((⟨H.size, 0, none⟩ : Addr), 8)] ∧ (
  CallsH Try.prog n_gen_Host #[.agg #[.int .i64 x, .slice x1.p x1.n x1.c, .slice x2.p x2.n x2.c, .slice x3.p x3.n x3.c, .slice x4.p x4.n x4.c, .slice x5.p x5.n x5.c, .slice x6.p x6.n x6.c, .slice x7.p x7.n x7.c]] H19 (fun v10 H20 =>
  ∃ x53 : Int, ∃ x54 : Sl, ∃ x55 : Sl, ∃ x56 : Sl, ∃ x57 : Sl, ∃ x58 : Sl, ∃ x59 : Sl, ∃ x60 : Sl, v10 = .agg #[.int .i64 x53, .slice x54.p x54.n x54.c, .slice x55.p x55.n x55.c, .slice x56.p x56.n x56.c, .slice x57.p x57.n x57.c, .slice x58.p x58.n x58.c, .slice x59.p x59.n x59.c, .slice x60.p x60.n x60.c] ∧ (
  okRow H20 (⟨H2.size, 0, none⟩ : Addr) 8 ∧ (
  letH (wrs H20 (⟨H2.size, 0, none⟩ : Addr) [.int .i64 x53, .slice x54.p x54.n x54.c, .slice x55.p x55.n x55.c, .slice x56.p x56.n x56.c, .slice x57.p x57.n x57.c, .slice x58.p x58.n x58.c, .slice x59.p x59.n x59.c, .slice x60.p x60.n x60.c]) (fun H21 : Heap =>
  ∃ x61 : Int, rd H21 (⟨H2.size, 0, none⟩ : Addr) = some (.int .i64 x61) ∧ ∃ x62 : Sl, rd H21 ((⟨H2.size, 0, none⟩ : Addr).add 1) = some (.slice x62.p x62.n x62.c) ∧ ∃ x63 : Sl, rd H21 ((⟨H2.size, 0, none⟩ : Addr).add 2) = some (.slice x63.p x63.n x63.c) ∧ ∃ x64 : Sl, rd H21 ((⟨H2.size, 0, none⟩ : Addr).add 3) = some (.slice x64.p x64.n x64.c) ∧ ∃ x65 : Sl, rd H21 ((⟨H2.size, 0, none⟩ : Addr).add 4) = some (.slice x65.p x65.n x65.c) ∧ ∃ x66 : Sl, rd H21 ((⟨H2.size, 0, none⟩ : Addr).add 5) = some (.slice x66.p x66.n x66.c) ∧ ∃ x67 : Sl, rd H21 ((⟨H2.size, 0, none⟩ : Addr).add 6) = some (.slice x67.p x67.n x67.c) ∧ ∃ x68 : Sl, rd H21 ((⟨H2.size, 0, none⟩ : Addr).add 7) = some (.slice x68.p x68.n x68.c) ∧ (
  CallsH Try.prog n_allocate_Assign #[.slice t.p t.n t.c, .agg #[.int .i64 x61, .slice x62.p x62.n x62.c, .slice x63.p x63.n x63.c, .slice x64.p x64.n x64.c, .slice x65.p x65.n x65.c, .slice x66.p x66.n x66.c, .slice x67.p x67.n x67.c, .slice x68.p x68.n x68.c]] H21 (fun v11 H22 =>
  ∃ x69 : Sl, ∃ x70 : Int, ∃ x71 : Int, ∃ x72 : Int, ∃ x73 : Int, ∃ x74 : Int, v11 = .tuple #[.slice x69.p x69.n x69.c, .agg #[.int .i64 x70, .int .i64 x71, .int .u64 x72, .int .u64 x73], .int .i64 x74] ∧ (
  letH (H22.push (.cells #[.int .i64 (0 : Int), .int .i64 (0 : Int), .int .u64 (0 : Int), .int .u64 (0 : Int)] t_api_Certificate (0, 0))) (fun H23 : Heap =>
  okRow H23 (⟨H22.size, 0, none⟩ : Addr) 4 ∧ (
  letH (wrs H23 (⟨H22.size, 0, none⟩ : Addr) [.int .i64 x70, .int .i64 x71, .int .u64 x72, .int .u64 x73]) (fun H24 : Heap =>
  ∃ J_1 : Bool → Heap → Prop, (
  CallsH Try.prog n_law21_awake #[] H24 (fun v12 H25 =>
  ∃ x75 : Bool, v12 = .bool x75 ∧ (
  iteB (!x75) (
  J_1 true H25) (
  J_1 (x74 != (19 : Int)) H25)))) ∧ (∀ x76 : Bool, ∀ H26 : Heap, J_1 x76 H26 → F_law21_AllocateRefusalsAreJustified_k4 R H2 t H22 x69 x76 H26)))))))))))))))))) ∧ (
  letH (H1.push (.cells #[.int .i64 (0 : Int), .slice none 0 0, .slice none 0 0, .slice none 0 0, .slice none 0 0, .slice none 0 0, .slice none 0 0, .slice none 0 0] t_api_Host (0, 0))) (fun H35 : Heap =>
  Keeps H1 H35 [((⟨H.size, 0, none⟩ : Addr), 8)] ∧ (
  CallsH Try.prog n_gen_Topology #[.slice l.p l.n l.c, .int .i64 (24 : Int)] H35 (fun v19 H36 =>
  ∃ t1 : Sl, v19 = .slice t1.p t1.n t1.c ∧ (
  Keeps H35 H36 [((⟨H.size, 0, none⟩ : Addr), 8)] ∧ (
  CallsH Try.prog n_gen_Host #[.agg #[.int .i64 x, .slice x1.p x1.n x1.c, .slice x2.p x2.n x2.c, .slice x3.p x3.n x3.c, .slice x4.p x4.n x4.c, .slice x5.p x5.n x5.c, .slice x6.p x6.n x6.c, .slice x7.p x7.n x7.c]] H36 (fun v20 H37 =>
  ∃ x98 : Int, ∃ x99 : Sl, ∃ x100 : Sl, ∃ x101 : Sl, ∃ x102 : Sl, ∃ x103 : Sl, ∃ x104 : Sl, ∃ x105 : Sl, v20 = .agg #[.int .i64 x98, .slice x99.p x99.n x99.c, .slice x100.p x100.n x100.c, .slice x101.p x101.n x101.c, .slice x102.p x102.n x102.c, .slice x103.p x103.n x103.c, .slice x104.p x104.n x104.c, .slice x105.p x105.n x105.c] ∧ (
  okRow H37 (⟨H1.size, 0, none⟩ : Addr) 8 ∧ (
  letH (wrs H37 (⟨H1.size, 0, none⟩ : Addr) [.int .i64 x98, .slice x99.p x99.n x99.c, .slice x100.p x100.n x100.c, .slice x101.p x101.n x101.c, .slice x102.p x102.n x102.c, .slice x103.p x103.n x103.c, .slice x104.p x104.n x104.c, .slice x105.p x105.n x105.c]) (fun H38 : Heap =>
  ∃ x106 : Int, rd H38 (⟨H1.size, 0, none⟩ : Addr) = some (.int .i64 x106) ∧ ∃ x107 : Sl, rd H38 ((⟨H1.size, 0, none⟩ : Addr).add 1) = some (.slice x107.p x107.n x107.c) ∧ ∃ x108 : Sl, rd H38 ((⟨H1.size, 0, none⟩ : Addr).add 2) = some (.slice x108.p x108.n x108.c) ∧ ∃ x109 : Sl, rd H38 ((⟨H1.size, 0, none⟩ : Addr).add 3) = some (.slice x109.p x109.n x109.c) ∧ ∃ x110 : Sl, rd H38 ((⟨H1.size, 0, none⟩ : Addr).add 4) = some (.slice x110.p x110.n x110.c) ∧ ∃ x111 : Sl, rd H38 ((⟨H1.size, 0, none⟩ : Addr).add 5) = some (.slice x111.p x111.n x111.c) ∧ ∃ x112 : Sl, rd H38 ((⟨H1.size, 0, none⟩ : Addr).add 6) = some (.slice x112.p x112.n x112.c) ∧ ∃ x113 : Sl, rd H38 ((⟨H1.size, 0, none⟩ : Addr).add 7) = some (.slice x113.p x113.n x113.c) ∧ (
  CallsH Try.prog n_allocate_Assign #[.slice t1.p t1.n t1.c, .agg #[.int .i64 x106, .slice x107.p x107.n x107.c, .slice x108.p x108.n x108.c, .slice x109.p x109.n x109.c, .slice x110.p x110.n x110.c, .slice x111.p x111.n x111.c, .slice x112.p x112.n x112.c, .slice x113.p x113.n x113.c]] H38 (fun v21 H39 =>
  ∃ x114 : Sl, ∃ x115 : Int, ∃ x116 : Int, ∃ x117 : Int, ∃ x118 : Int, ∃ x119 : Int, v21 = .tuple #[.slice x114.p x114.n x114.c, .agg #[.int .i64 x115, .int .i64 x116, .int .u64 x117, .int .u64 x118], .int .i64 x119] ∧ (
  letH (H39.push (.cells #[.int .i64 (0 : Int), .int .i64 (0 : Int), .int .u64 (0 : Int), .int .u64 (0 : Int)] t_api_Certificate (0, 0))) (fun H40 : Heap =>
  okRow H40 (⟨H39.size, 0, none⟩ : Addr) 4 ∧ (
  letH (wrs H40 (⟨H39.size, 0, none⟩ : Addr) [.int .i64 x115, .int .i64 x116, .int .u64 x117, .int .u64 x118]) (fun H41 : Heap =>
  ∃ J_2 : Bool → Heap → Prop, (
  CallsH Try.prog n_law21_awake #[] H41 (fun v22 H42 =>
  ∃ x120 : Bool, v22 = .bool x120 ∧ (
  iteB (!x120) (
  J_2 true H42) (
  J_2 (x119 != (19 : Int)) H42)))) ∧ (∀ x121 : Bool, ∀ H43 : Heap, J_2 x121 H43 → F_law21_AllocateRefusalsAreJustified_k6 R H1 t1 H39 x114 x121 H43)))))))))))))))))))

theorem F_law21_AllocateRefusalsAreJustified_eq (R : Value → Heap → Prop) (l : Sl) (h_0 : Int) (h_1 : Sl) (h_2 : Sl) (h_3 : Sl) (h_4 : Sl) (h_5 : Sl) (h_6 : Sl) (h_7 : Sl) (H : Heap) : wpF Try.prog Try.f8 [(12, .slice none 0 0), (14, .int .i64 0), (31, .bool false)] [(4, [31], [5, 6, 7, 8])] [(9, [12, 14], [6, 7, 8, 13])] [17] [.slice l.p l.n l.c, .agg #[.int .i64 h_0, .slice h_1.p h_1.n h_1.c, .slice h_2.p h_2.n h_2.c, .slice h_3.p h_3.n h_3.c, .slice h_4.p h_4.n h_4.c, .slice h_5.p h_5.n h_5.c, .slice h_6.p h_6.n h_6.c, .slice h_7.p h_7.n h_7.c]] H R = F_law21_AllocateRefusalsAreJustified R l h_0 h_1 h_2 h_3 h_4 h_5 h_6 h_7 H := by kernel_rfl

theorem F_law21_AllocateRefusalsAreJustified_ok {R : Value → Heap → Prop} (l : Sl) (h_0 : Int) (h_1 : Sl) (h_2 : Sl) (h_3 : Sl) (h_4 : Sl) (h_5 : Sl) (h_6 : Sl) (h_7 : Sl) {H : Heap} (h : F_law21_AllocateRefusalsAreJustified R l h_0 h_1 h_2 h_3 h_4 h_5 h_6 h_7 H) : CallsH Try.prog n_law21_AllocateRefusalsAreJustified #[.slice l.p l.n l.c, .agg #[.int .i64 h_0, .slice h_1.p h_1.n h_1.c, .slice h_2.p h_2.n h_2.c, .slice h_3.p h_3.n h_3.c, .slice h_4.p h_4.n h_4.c, .slice h_5.p h_5.n h_5.c, .slice h_6.p h_6.n h_6.c, .slice h_7.p h_7.n h_7.c]] H R :=
  wpF_ok Try.func8 (F_law21_AllocateRefusalsAreJustified_eq R l h_0 h_1 h_2 h_3 h_4 h_5 h_6 h_7 H) h

/-! ### 9: platformfw/platformfwlaw21.AllocateChecks -/

def F_law21_AllocateChecks_k1 (R : Value → Heap → Prop) (t : Sl) (H4 : Heap) (b2 : Sl) (H24 : Heap) : Prop :=
  ∃ x69 : Int, rd H24 (⟨H4.size, 0, none⟩ : Addr) = some (.int .i64 x69) ∧ ∃ x70 : Sl, rd H24 ((⟨H4.size, 0, none⟩ : Addr).add 1) = some (.slice x70.p x70.n x70.c) ∧ ∃ x71 : Sl, rd H24 ((⟨H4.size, 0, none⟩ : Addr).add 2) = some (.slice x71.p x71.n x71.c) ∧ ∃ x72 : Sl, rd H24 ((⟨H4.size, 0, none⟩ : Addr).add 3) = some (.slice x72.p x72.n x72.c) ∧ ∃ x73 : Sl, rd H24 ((⟨H4.size, 0, none⟩ : Addr).add 4) = some (.slice x73.p x73.n x73.c) ∧ ∃ x74 : Sl, rd H24 ((⟨H4.size, 0, none⟩ : Addr).add 5) = some (.slice x74.p x74.n x74.c) ∧ ∃ x75 : Sl, rd H24 ((⟨H4.size, 0, none⟩ : Addr).add 6) = some (.slice x75.p x75.n x75.c) ∧ ∃ x76 : Sl, rd H24 ((⟨H4.size, 0, none⟩ : Addr).add 7) = some (.slice x76.p x76.n x76.c) ∧ (
  ∃ x77 : Int, rd H24 (⟨H4.size, 0, none⟩ : Addr) = some (.int .i64 x77) ∧ ∃ x78 : Sl, rd H24 ((⟨H4.size, 0, none⟩ : Addr).add 1) = some (.slice x78.p x78.n x78.c) ∧ ∃ x79 : Sl, rd H24 ((⟨H4.size, 0, none⟩ : Addr).add 2) = some (.slice x79.p x79.n x79.c) ∧ ∃ x80 : Sl, rd H24 ((⟨H4.size, 0, none⟩ : Addr).add 3) = some (.slice x80.p x80.n x80.c) ∧ ∃ x81 : Sl, rd H24 ((⟨H4.size, 0, none⟩ : Addr).add 4) = some (.slice x81.p x81.n x81.c) ∧ ∃ x82 : Sl, rd H24 ((⟨H4.size, 0, none⟩ : Addr).add 5) = some (.slice x82.p x82.n x82.c) ∧ ∃ x83 : Sl, rd H24 ((⟨H4.size, 0, none⟩ : Addr).add 6) = some (.slice x83.p x83.n x83.c) ∧ ∃ x84 : Sl, rd H24 ((⟨H4.size, 0, none⟩ : Addr).add 7) = some (.slice x84.p x84.n x84.c) ∧ (
  CallsH Try.prog n_allocate_Check #[.slice t.p t.n t.c, .agg #[.int .i64 x69, .slice x70.p x70.n x70.c, .slice x71.p x71.n x71.c, .slice x72.p x72.n x72.c, .slice x73.p x73.n x73.c, .slice x74.p x74.n x74.c, .slice x75.p x75.n x75.c, .slice x76.p x76.n x76.c], .slice b2.p b2.n b2.c] H24 (fun v11 H25 =>
  ∃ x85 : Bool, v11 = .bool x85 ∧ (
  Keeps H24 H25 [((⟨H4.size, 0, none⟩ : Addr), 8)] ∧ (
  CallsH Try.prog n_ref21_Check #[.slice t.p t.n t.c, .agg #[.int .i64 x77, .slice x78.p x78.n x78.c, .slice x79.p x79.n x79.c, .slice x80.p x80.n x80.c, .slice x81.p x81.n x81.c, .slice x82.p x82.n x82.c, .slice x83.p x83.n x83.c, .slice x84.p x84.n x84.c], .slice b2.p b2.n b2.c] H25 (fun v12 H26 =>
  ∃ x86 : Bool, v12 = .bool x86 ∧ (
  R (.bool (x85 == x86)) H26)))))))

def F_law21_AllocateChecks_k2 (R : Value → Heap → Prop) (atv : Int) (kind : Int) (H1 : Heap) (t : Sl) (H4 : Heap) (x24 : Sl) (x40 : Bool) (H13 : Heap) : Prop :=
  iteB x40 (
  ∃ x41 : Int, rd H13 (⟨H4.size, 0, none⟩ : Addr) = some (.int .i64 x41) ∧ ∃ x42 : Sl, rd H13 ((⟨H4.size, 0, none⟩ : Addr).add 1) = some (.slice x42.p x42.n x42.c) ∧ ∃ x43 : Sl, rd H13 ((⟨H4.size, 0, none⟩ : Addr).add 2) = some (.slice x43.p x43.n x43.c) ∧ ∃ x44 : Sl, rd H13 ((⟨H4.size, 0, none⟩ : Addr).add 3) = some (.slice x44.p x44.n x44.c) ∧ ∃ x45 : Sl, rd H13 ((⟨H4.size, 0, none⟩ : Addr).add 4) = some (.slice x45.p x45.n x45.c) ∧ ∃ x46 : Sl, rd H13 ((⟨H4.size, 0, none⟩ : Addr).add 5) = some (.slice x46.p x46.n x46.c) ∧ ∃ x47 : Sl, rd H13 ((⟨H4.size, 0, none⟩ : Addr).add 6) = some (.slice x47.p x47.n x47.c) ∧ ∃ x48 : Sl, rd H13 ((⟨H4.size, 0, none⟩ : Addr).add 7) = some (.slice x48.p x48.n x48.c) ∧ (
  ∃ x49 : Int, rd H13 (⟨H4.size, 0, none⟩ : Addr) = some (.int .i64 x49) ∧ ∃ x50 : Sl, rd H13 ((⟨H4.size, 0, none⟩ : Addr).add 1) = some (.slice x50.p x50.n x50.c) ∧ ∃ x51 : Sl, rd H13 ((⟨H4.size, 0, none⟩ : Addr).add 2) = some (.slice x51.p x51.n x51.c) ∧ ∃ x52 : Sl, rd H13 ((⟨H4.size, 0, none⟩ : Addr).add 3) = some (.slice x52.p x52.n x52.c) ∧ ∃ x53 : Sl, rd H13 ((⟨H4.size, 0, none⟩ : Addr).add 4) = some (.slice x53.p x53.n x53.c) ∧ ∃ x54 : Sl, rd H13 ((⟨H4.size, 0, none⟩ : Addr).add 5) = some (.slice x54.p x54.n x54.c) ∧ ∃ x55 : Sl, rd H13 ((⟨H4.size, 0, none⟩ : Addr).add 6) = some (.slice x55.p x55.n x55.c) ∧ ∃ x56 : Sl, rd H13 ((⟨H4.size, 0, none⟩ : Addr).add 7) = some (.slice x56.p x56.n x56.c) ∧ (
  CallsH Try.prog n_allocate_Check #[.slice t.p t.n t.c, .agg #[.int .i64 x41, .slice x42.p x42.n x42.c, .slice x43.p x43.n x43.c, .slice x44.p x44.n x44.c, .slice x45.p x45.n x45.c, .slice x46.p x46.n x46.c, .slice x47.p x47.n x47.c, .slice x48.p x48.n x48.c], .slice x24.p x24.n x24.c] H13 (fun v5 H14 =>
  ∃ x57 : Bool, v5 = .bool x57 ∧ (
  Keeps H13 H14 [((⟨H4.size, 0, none⟩ : Addr), 8)] ∧ (
  CallsH Try.prog n_ref21_Check #[.slice t.p t.n t.c, .agg #[.int .i64 x49, .slice x50.p x50.n x50.c, .slice x51.p x51.n x51.c, .slice x52.p x52.n x52.c, .slice x53.p x53.n x53.c, .slice x54.p x54.n x54.c, .slice x55.p x55.n x55.c, .slice x56.p x56.n x56.c], .slice x24.p x24.n x24.c] H14 (fun v6 H15 =>
  ∃ x58 : Bool, v6 = .bool x58 ∧ (
  R (.bool (x57 == x58)) H15)))))))) (
  CallsH Try.prog n_help_Mod #[.int .i64 atv, .int .i64 (x24.n : Int)] H13 (fun v7 H16 =>
  ∃ k : Int, v7 = .int .i64 k ∧ (
  runH Try.prog (Builtin.append_ #[t_sl_api_Assignment, t_sl_api_Assignment] t_sl_api_Assignment #[.slice none 0 0, .slice x24.p x24.n x24.c]) H16 (fun v8 H17 =>
  ∃ b : Sl, v8 = .slice b.p b.n b.c ∧ (
  ∃ J_2 : Sl → Heap → Prop, (
  iteB ((kind.tmod (5 : Int)) == (0 : Int)) (
  ∃ x59 : Int, rd H17 ((⟨H1.size, 0, none⟩ : Addr).add 4) = some (.int .u64 x59) ∧ (
  0 ≤ k ∧ k < (b.n : Int) ∧ (unSome b.p (fun a =>
  okRow H17 ((a.add (k.toNat * 5)).add 4) 1 ∧ (
  letH (wrs H17 ((a.add (k.toNat * 5)).add 4) [.int .u64 x59]) (fun H18 : Heap =>
  J_2 b H18)))))) (
  iteB ((kind.tmod (5 : Int)) == (1 : Int)) (
  ∃ x60 : Int, rd H17 ((⟨H1.size, 0, none⟩ : Addr).add 1) = some (.int .i64 x60) ∧ (
  CallsH Try.prog n_help_Mod #[.int .i64 x60, .int .i64 (x24.n : Int)] H17 (fun v9 H19 =>
  ∃ x61 : Int, v9 = .int .i64 x61 ∧ (
  0 ≤ x61 ∧ x61 < (x24.n : Int) ∧ (unSome x24.p (fun a1 =>
  ∃ x62 : Int, rd H19 ((a1.add (x61.toNat * 5)).add 4) = some (.int .u64 x62) ∧ (
  0 ≤ k ∧ k < (b.n : Int) ∧ (unSome b.p (fun a2 =>
  okRow H19 ((a2.add (k.toNat * 5)).add 4) 1 ∧ (
  letH (wrs H19 ((a2.add (k.toNat * 5)).add 4) [.int .u64 x62]) (fun H20 : Heap =>
  J_2 b H20))))))))))) (
  iteB ((kind.tmod (5 : Int)) == (2 : Int)) (
  0 ≤ k ∧ k < (b.n : Int) ∧ (unSome b.p (fun a3 =>
  ∃ x63 : Int, rd H17 ((a3.add (k.toNat * 5)).add 4) = some (.int .u64 x63) ∧ (
  0 ≤ k ∧ k < (b.n : Int) ∧ (unSome b.p (fun a4 =>
  ∃ x64 : Int, rd H17 ((a4.add (k.toNat * 5)).add 3) = some (.int .i64 x64) ∧ (
  0 ≤ (IntKind.u64.wrap x64) ∧ (
  0 ≤ k ∧ k < (b.n : Int) ∧ (unSome b.p (fun a5 =>
  okRow H17 ((a5.add (k.toNat * 5)).add 4) 1 ∧ (
  letH (wrs H17 ((a5.add (k.toNat * 5)).add 4) [.int .u64 (IntKind.u64.wrap (x63 + (IntKind.u64.wrap ((1 : Int) * 2 ^ (min (IntKind.u64.wrap x64).toNat IntKind.u64.bits)))))]) (fun H21 : Heap =>
  J_2 b H21)))))))))))) (
  iteB ((kind.tmod (5 : Int)) == (3 : Int)) (
  ∃ x65 : Int, rd H17 (⟨H1.size, 0, none⟩ : Addr) = some (.int .i64 x65) ∧ ∃ x66 : Int, rd H17 ((⟨H1.size, 0, none⟩ : Addr).add 1) = some (.int .i64 x66) ∧ ∃ x67 : Int, rd H17 ((⟨H1.size, 0, none⟩ : Addr).add 2) = some (.int .i64 x67) ∧ ∃ x68 : Int, rd H17 ((⟨H1.size, 0, none⟩ : Addr).add 3) = some (.int .i64 x68) ∧ (
  0 ≤ k ∧ k < (b.n : Int) ∧ (unSome b.p (fun a6 =>
  okRow H17 (a6.add (k.toNat * 5)) 4 ∧ (
  letH (wrs H17 (a6.add (k.toNat * 5)) [.int .i64 x65, .int .i64 x66, .int .i64 x67, .int .i64 x68]) (fun H22 : Heap =>
  J_2 b H22)))))) (
  iteB ((kind.tmod (5 : Int)) == (4 : Int)) (
  0 ≤ k ∧ k ≤ (b.c : Int) ∧ (
  0 ≤ (IntKind.i64.wrap (k + (1 : Int))) ∧ (IntKind.i64.wrap (k + (1 : Int))) ≤ (b.n : Int) ∧ (
  runH Try.prog (Builtin.append_ #[t_sl_api_Assignment, t_sl_api_Assignment] t_sl_api_Assignment #[.slice (slP b.p b.c 0 5) (k.toNat - 0) (b.c - 0), .slice (slP b.p b.c ((IntKind.i64.wrap (k + (1 : Int))).toNat) 5) (b.n - (IntKind.i64.wrap (k + (1 : Int))).toNat) (b.c - (IntKind.i64.wrap (k + (1 : Int))).toNat)]) H17 (fun v10 H23 =>
  ∃ b1 : Sl, v10 = .slice b1.p b1.n b1.c ∧ (
  J_2 b1 H23))))) (
  J_2 b H17)))))) ∧ (∀ b2 : Sl, ∀ H24 : Heap, J_2 b2 H24 → F_law21_AllocateChecks_k1 R t H4 b2 H24))))))

def F_law21_AllocateChecks_k3 (R : Value → Heap → Prop) (atv : Int) (kind : Int) (H1 : Heap) (t : Sl) (H4 : Heap) (x24 : Sl) (x29 : Int) (H12 : Heap) : Prop :=
  ∃ J_1 : Bool → Heap → Prop, (
  iteB (x29 != (0 : Int)) (
  J_1 true H12) (
  J_1 ((x24.n : Int) == (0 : Int)) H12)) ∧ (∀ x40 : Bool, ∀ H13 : Heap, J_1 x40 H13 → F_law21_AllocateChecks_k2 R atv kind H1 t H4 x24 x40 H13)

def F_law21_AllocateChecks_k4 (R : Value → Heap → Prop) (H3 : Heap) (t : Sl) (b5 : Sl) (H47 : Heap) : Prop :=
  ∃ x148 : Int, rd H47 (⟨H3.size, 0, none⟩ : Addr) = some (.int .i64 x148) ∧ ∃ x149 : Sl, rd H47 ((⟨H3.size, 0, none⟩ : Addr).add 1) = some (.slice x149.p x149.n x149.c) ∧ ∃ x150 : Sl, rd H47 ((⟨H3.size, 0, none⟩ : Addr).add 2) = some (.slice x150.p x150.n x150.c) ∧ ∃ x151 : Sl, rd H47 ((⟨H3.size, 0, none⟩ : Addr).add 3) = some (.slice x151.p x151.n x151.c) ∧ ∃ x152 : Sl, rd H47 ((⟨H3.size, 0, none⟩ : Addr).add 4) = some (.slice x152.p x152.n x152.c) ∧ ∃ x153 : Sl, rd H47 ((⟨H3.size, 0, none⟩ : Addr).add 5) = some (.slice x153.p x153.n x153.c) ∧ ∃ x154 : Sl, rd H47 ((⟨H3.size, 0, none⟩ : Addr).add 6) = some (.slice x154.p x154.n x154.c) ∧ ∃ x155 : Sl, rd H47 ((⟨H3.size, 0, none⟩ : Addr).add 7) = some (.slice x155.p x155.n x155.c) ∧ (
  ∃ x156 : Int, rd H47 (⟨H3.size, 0, none⟩ : Addr) = some (.int .i64 x156) ∧ ∃ x157 : Sl, rd H47 ((⟨H3.size, 0, none⟩ : Addr).add 1) = some (.slice x157.p x157.n x157.c) ∧ ∃ x158 : Sl, rd H47 ((⟨H3.size, 0, none⟩ : Addr).add 2) = some (.slice x158.p x158.n x158.c) ∧ ∃ x159 : Sl, rd H47 ((⟨H3.size, 0, none⟩ : Addr).add 3) = some (.slice x159.p x159.n x159.c) ∧ ∃ x160 : Sl, rd H47 ((⟨H3.size, 0, none⟩ : Addr).add 4) = some (.slice x160.p x160.n x160.c) ∧ ∃ x161 : Sl, rd H47 ((⟨H3.size, 0, none⟩ : Addr).add 5) = some (.slice x161.p x161.n x161.c) ∧ ∃ x162 : Sl, rd H47 ((⟨H3.size, 0, none⟩ : Addr).add 6) = some (.slice x162.p x162.n x162.c) ∧ ∃ x163 : Sl, rd H47 ((⟨H3.size, 0, none⟩ : Addr).add 7) = some (.slice x163.p x163.n x163.c) ∧ (
  CallsH Try.prog n_allocate_Check #[.slice t.p t.n t.c, .agg #[.int .i64 x148, .slice x149.p x149.n x149.c, .slice x150.p x150.n x150.c, .slice x151.p x151.n x151.c, .slice x152.p x152.n x152.c, .slice x153.p x153.n x153.c, .slice x154.p x154.n x154.c, .slice x155.p x155.n x155.c], .slice b5.p b5.n b5.c] H47 (fun v23 H48 =>
  ∃ x164 : Bool, v23 = .bool x164 ∧ (
  Keeps H47 H48 [((⟨H3.size, 0, none⟩ : Addr), 8)] ∧ (
  CallsH Try.prog n_ref21_Check #[.slice t.p t.n t.c, .agg #[.int .i64 x156, .slice x157.p x157.n x157.c, .slice x158.p x158.n x158.c, .slice x159.p x159.n x159.c, .slice x160.p x160.n x160.c, .slice x161.p x161.n x161.c, .slice x162.p x162.n x162.c, .slice x163.p x163.n x163.c], .slice b5.p b5.n b5.c] H48 (fun v24 H49 =>
  ∃ x165 : Bool, v24 = .bool x165 ∧ (
  R (.bool (x164 == x165)) H49)))))))

def F_law21_AllocateChecks_k5 (R : Value → Heap → Prop) (atv : Int) (kind : Int) (H1 : Heap) (H3 : Heap) (t : Sl) (x103 : Sl) (x119 : Bool) (H36 : Heap) : Prop :=
  iteB x119 (
  ∃ x120 : Int, rd H36 (⟨H3.size, 0, none⟩ : Addr) = some (.int .i64 x120) ∧ ∃ x121 : Sl, rd H36 ((⟨H3.size, 0, none⟩ : Addr).add 1) = some (.slice x121.p x121.n x121.c) ∧ ∃ x122 : Sl, rd H36 ((⟨H3.size, 0, none⟩ : Addr).add 2) = some (.slice x122.p x122.n x122.c) ∧ ∃ x123 : Sl, rd H36 ((⟨H3.size, 0, none⟩ : Addr).add 3) = some (.slice x123.p x123.n x123.c) ∧ ∃ x124 : Sl, rd H36 ((⟨H3.size, 0, none⟩ : Addr).add 4) = some (.slice x124.p x124.n x124.c) ∧ ∃ x125 : Sl, rd H36 ((⟨H3.size, 0, none⟩ : Addr).add 5) = some (.slice x125.p x125.n x125.c) ∧ ∃ x126 : Sl, rd H36 ((⟨H3.size, 0, none⟩ : Addr).add 6) = some (.slice x126.p x126.n x126.c) ∧ ∃ x127 : Sl, rd H36 ((⟨H3.size, 0, none⟩ : Addr).add 7) = some (.slice x127.p x127.n x127.c) ∧ (
  ∃ x128 : Int, rd H36 (⟨H3.size, 0, none⟩ : Addr) = some (.int .i64 x128) ∧ ∃ x129 : Sl, rd H36 ((⟨H3.size, 0, none⟩ : Addr).add 1) = some (.slice x129.p x129.n x129.c) ∧ ∃ x130 : Sl, rd H36 ((⟨H3.size, 0, none⟩ : Addr).add 2) = some (.slice x130.p x130.n x130.c) ∧ ∃ x131 : Sl, rd H36 ((⟨H3.size, 0, none⟩ : Addr).add 3) = some (.slice x131.p x131.n x131.c) ∧ ∃ x132 : Sl, rd H36 ((⟨H3.size, 0, none⟩ : Addr).add 4) = some (.slice x132.p x132.n x132.c) ∧ ∃ x133 : Sl, rd H36 ((⟨H3.size, 0, none⟩ : Addr).add 5) = some (.slice x133.p x133.n x133.c) ∧ ∃ x134 : Sl, rd H36 ((⟨H3.size, 0, none⟩ : Addr).add 6) = some (.slice x134.p x134.n x134.c) ∧ ∃ x135 : Sl, rd H36 ((⟨H3.size, 0, none⟩ : Addr).add 7) = some (.slice x135.p x135.n x135.c) ∧ (
  CallsH Try.prog n_allocate_Check #[.slice t.p t.n t.c, .agg #[.int .i64 x120, .slice x121.p x121.n x121.c, .slice x122.p x122.n x122.c, .slice x123.p x123.n x123.c, .slice x124.p x124.n x124.c, .slice x125.p x125.n x125.c, .slice x126.p x126.n x126.c, .slice x127.p x127.n x127.c], .slice x103.p x103.n x103.c] H36 (fun v17 H37 =>
  ∃ x136 : Bool, v17 = .bool x136 ∧ (
  Keeps H36 H37 [((⟨H3.size, 0, none⟩ : Addr), 8)] ∧ (
  CallsH Try.prog n_ref21_Check #[.slice t.p t.n t.c, .agg #[.int .i64 x128, .slice x129.p x129.n x129.c, .slice x130.p x130.n x130.c, .slice x131.p x131.n x131.c, .slice x132.p x132.n x132.c, .slice x133.p x133.n x133.c, .slice x134.p x134.n x134.c, .slice x135.p x135.n x135.c], .slice x103.p x103.n x103.c] H37 (fun v18 H38 =>
  ∃ x137 : Bool, v18 = .bool x137 ∧ (
  R (.bool (x136 == x137)) H38)))))))) (
  CallsH Try.prog n_help_Mod #[.int .i64 atv, .int .i64 (x103.n : Int)] H36 (fun v19 H39 =>
  ∃ k1 : Int, v19 = .int .i64 k1 ∧ (
  runH Try.prog (Builtin.append_ #[t_sl_api_Assignment, t_sl_api_Assignment] t_sl_api_Assignment #[.slice none 0 0, .slice x103.p x103.n x103.c]) H39 (fun v20 H40 =>
  ∃ b3 : Sl, v20 = .slice b3.p b3.n b3.c ∧ (
  ∃ J_5 : Sl → Heap → Prop, (
  iteB ((kind.tmod (5 : Int)) == (0 : Int)) (
  ∃ x138 : Int, rd H40 ((⟨H1.size, 0, none⟩ : Addr).add 4) = some (.int .u64 x138) ∧ (
  0 ≤ k1 ∧ k1 < (b3.n : Int) ∧ (unSome b3.p (fun a7 =>
  okRow H40 ((a7.add (k1.toNat * 5)).add 4) 1 ∧ (
  letH (wrs H40 ((a7.add (k1.toNat * 5)).add 4) [.int .u64 x138]) (fun H41 : Heap =>
  J_5 b3 H41)))))) (
  iteB ((kind.tmod (5 : Int)) == (1 : Int)) (
  ∃ x139 : Int, rd H40 ((⟨H1.size, 0, none⟩ : Addr).add 1) = some (.int .i64 x139) ∧ (
  CallsH Try.prog n_help_Mod #[.int .i64 x139, .int .i64 (x103.n : Int)] H40 (fun v21 H42 =>
  ∃ x140 : Int, v21 = .int .i64 x140 ∧ (
  0 ≤ x140 ∧ x140 < (x103.n : Int) ∧ (unSome x103.p (fun a8 =>
  ∃ x141 : Int, rd H42 ((a8.add (x140.toNat * 5)).add 4) = some (.int .u64 x141) ∧ (
  0 ≤ k1 ∧ k1 < (b3.n : Int) ∧ (unSome b3.p (fun a9 =>
  okRow H42 ((a9.add (k1.toNat * 5)).add 4) 1 ∧ (
  letH (wrs H42 ((a9.add (k1.toNat * 5)).add 4) [.int .u64 x141]) (fun H43 : Heap =>
  J_5 b3 H43))))))))))) (
  iteB ((kind.tmod (5 : Int)) == (2 : Int)) (
  0 ≤ k1 ∧ k1 < (b3.n : Int) ∧ (unSome b3.p (fun a10 =>
  ∃ x142 : Int, rd H40 ((a10.add (k1.toNat * 5)).add 4) = some (.int .u64 x142) ∧ (
  0 ≤ k1 ∧ k1 < (b3.n : Int) ∧ (unSome b3.p (fun a11 =>
  ∃ x143 : Int, rd H40 ((a11.add (k1.toNat * 5)).add 3) = some (.int .i64 x143) ∧ (
  0 ≤ (IntKind.u64.wrap x143) ∧ (
  0 ≤ k1 ∧ k1 < (b3.n : Int) ∧ (unSome b3.p (fun a12 =>
  okRow H40 ((a12.add (k1.toNat * 5)).add 4) 1 ∧ (
  letH (wrs H40 ((a12.add (k1.toNat * 5)).add 4) [.int .u64 (IntKind.u64.wrap (x142 + (IntKind.u64.wrap ((1 : Int) * 2 ^ (min (IntKind.u64.wrap x143).toNat IntKind.u64.bits)))))]) (fun H44 : Heap =>
  J_5 b3 H44)))))))))))) (
  iteB ((kind.tmod (5 : Int)) == (3 : Int)) (
  ∃ x144 : Int, rd H40 (⟨H1.size, 0, none⟩ : Addr) = some (.int .i64 x144) ∧ ∃ x145 : Int, rd H40 ((⟨H1.size, 0, none⟩ : Addr).add 1) = some (.int .i64 x145) ∧ ∃ x146 : Int, rd H40 ((⟨H1.size, 0, none⟩ : Addr).add 2) = some (.int .i64 x146) ∧ ∃ x147 : Int, rd H40 ((⟨H1.size, 0, none⟩ : Addr).add 3) = some (.int .i64 x147) ∧ (
  0 ≤ k1 ∧ k1 < (b3.n : Int) ∧ (unSome b3.p (fun a13 =>
  okRow H40 (a13.add (k1.toNat * 5)) 4 ∧ (
  letH (wrs H40 (a13.add (k1.toNat * 5)) [.int .i64 x144, .int .i64 x145, .int .i64 x146, .int .i64 x147]) (fun H45 : Heap =>
  J_5 b3 H45)))))) (
  iteB ((kind.tmod (5 : Int)) == (4 : Int)) (
  0 ≤ k1 ∧ k1 ≤ (b3.c : Int) ∧ (
  0 ≤ (IntKind.i64.wrap (k1 + (1 : Int))) ∧ (IntKind.i64.wrap (k1 + (1 : Int))) ≤ (b3.n : Int) ∧ (
  runH Try.prog (Builtin.append_ #[t_sl_api_Assignment, t_sl_api_Assignment] t_sl_api_Assignment #[.slice (slP b3.p b3.c 0 5) (k1.toNat - 0) (b3.c - 0), .slice (slP b3.p b3.c ((IntKind.i64.wrap (k1 + (1 : Int))).toNat) 5) (b3.n - (IntKind.i64.wrap (k1 + (1 : Int))).toNat) (b3.c - (IntKind.i64.wrap (k1 + (1 : Int))).toNat)]) H40 (fun v22 H46 =>
  ∃ b4 : Sl, v22 = .slice b4.p b4.n b4.c ∧ (
  J_5 b4 H46))))) (
  J_5 b3 H40)))))) ∧ (∀ b5 : Sl, ∀ H47 : Heap, J_5 b5 H47 → F_law21_AllocateChecks_k4 R H3 t b5 H47))))))

def F_law21_AllocateChecks_k6 (R : Value → Heap → Prop) (atv : Int) (kind : Int) (H1 : Heap) (H3 : Heap) (t : Sl) (x103 : Sl) (x108 : Int) (H35 : Heap) : Prop :=
  ∃ J_4 : Bool → Heap → Prop, (
  iteB (x108 != (0 : Int)) (
  J_4 true H35) (
  J_4 ((x103.n : Int) == (0 : Int)) H35)) ∧ (∀ x119 : Bool, ∀ H36 : Heap, J_4 x119 H36 → F_law21_AllocateChecks_k5 R atv kind H1 H3 t x103 x119 H36)

def F_law21_AllocateChecks_k7 (R : Value → Heap → Prop) (H2 : Heap) (t1 : Sl) (b8 : Sl) (H71 : Heap) : Prop :=
  ∃ x227 : Int, rd H71 (⟨H2.size, 0, none⟩ : Addr) = some (.int .i64 x227) ∧ ∃ x228 : Sl, rd H71 ((⟨H2.size, 0, none⟩ : Addr).add 1) = some (.slice x228.p x228.n x228.c) ∧ ∃ x229 : Sl, rd H71 ((⟨H2.size, 0, none⟩ : Addr).add 2) = some (.slice x229.p x229.n x229.c) ∧ ∃ x230 : Sl, rd H71 ((⟨H2.size, 0, none⟩ : Addr).add 3) = some (.slice x230.p x230.n x230.c) ∧ ∃ x231 : Sl, rd H71 ((⟨H2.size, 0, none⟩ : Addr).add 4) = some (.slice x231.p x231.n x231.c) ∧ ∃ x232 : Sl, rd H71 ((⟨H2.size, 0, none⟩ : Addr).add 5) = some (.slice x232.p x232.n x232.c) ∧ ∃ x233 : Sl, rd H71 ((⟨H2.size, 0, none⟩ : Addr).add 6) = some (.slice x233.p x233.n x233.c) ∧ ∃ x234 : Sl, rd H71 ((⟨H2.size, 0, none⟩ : Addr).add 7) = some (.slice x234.p x234.n x234.c) ∧ (
  ∃ x235 : Int, rd H71 (⟨H2.size, 0, none⟩ : Addr) = some (.int .i64 x235) ∧ ∃ x236 : Sl, rd H71 ((⟨H2.size, 0, none⟩ : Addr).add 1) = some (.slice x236.p x236.n x236.c) ∧ ∃ x237 : Sl, rd H71 ((⟨H2.size, 0, none⟩ : Addr).add 2) = some (.slice x237.p x237.n x237.c) ∧ ∃ x238 : Sl, rd H71 ((⟨H2.size, 0, none⟩ : Addr).add 3) = some (.slice x238.p x238.n x238.c) ∧ ∃ x239 : Sl, rd H71 ((⟨H2.size, 0, none⟩ : Addr).add 4) = some (.slice x239.p x239.n x239.c) ∧ ∃ x240 : Sl, rd H71 ((⟨H2.size, 0, none⟩ : Addr).add 5) = some (.slice x240.p x240.n x240.c) ∧ ∃ x241 : Sl, rd H71 ((⟨H2.size, 0, none⟩ : Addr).add 6) = some (.slice x241.p x241.n x241.c) ∧ ∃ x242 : Sl, rd H71 ((⟨H2.size, 0, none⟩ : Addr).add 7) = some (.slice x242.p x242.n x242.c) ∧ (
  CallsH Try.prog n_allocate_Check #[.slice t1.p t1.n t1.c, .agg #[.int .i64 x227, .slice x228.p x228.n x228.c, .slice x229.p x229.n x229.c, .slice x230.p x230.n x230.c, .slice x231.p x231.n x231.c, .slice x232.p x232.n x232.c, .slice x233.p x233.n x233.c, .slice x234.p x234.n x234.c], .slice b8.p b8.n b8.c] H71 (fun v36 H72 =>
  ∃ x243 : Bool, v36 = .bool x243 ∧ (
  Keeps H71 H72 [((⟨H2.size, 0, none⟩ : Addr), 8)] ∧ (
  CallsH Try.prog n_ref21_Check #[.slice t1.p t1.n t1.c, .agg #[.int .i64 x235, .slice x236.p x236.n x236.c, .slice x237.p x237.n x237.c, .slice x238.p x238.n x238.c, .slice x239.p x239.n x239.c, .slice x240.p x240.n x240.c, .slice x241.p x241.n x241.c, .slice x242.p x242.n x242.c], .slice b8.p b8.n b8.c] H72 (fun v37 H73 =>
  ∃ x244 : Bool, v37 = .bool x244 ∧ (
  R (.bool (x243 == x244)) H73)))))))

def F_law21_AllocateChecks_k8 (R : Value → Heap → Prop) (atv : Int) (kind : Int) (H1 : Heap) (H2 : Heap) (t1 : Sl) (x182 : Sl) (x198 : Bool) (H60 : Heap) : Prop :=
  iteB x198 (
  ∃ x199 : Int, rd H60 (⟨H2.size, 0, none⟩ : Addr) = some (.int .i64 x199) ∧ ∃ x200 : Sl, rd H60 ((⟨H2.size, 0, none⟩ : Addr).add 1) = some (.slice x200.p x200.n x200.c) ∧ ∃ x201 : Sl, rd H60 ((⟨H2.size, 0, none⟩ : Addr).add 2) = some (.slice x201.p x201.n x201.c) ∧ ∃ x202 : Sl, rd H60 ((⟨H2.size, 0, none⟩ : Addr).add 3) = some (.slice x202.p x202.n x202.c) ∧ ∃ x203 : Sl, rd H60 ((⟨H2.size, 0, none⟩ : Addr).add 4) = some (.slice x203.p x203.n x203.c) ∧ ∃ x204 : Sl, rd H60 ((⟨H2.size, 0, none⟩ : Addr).add 5) = some (.slice x204.p x204.n x204.c) ∧ ∃ x205 : Sl, rd H60 ((⟨H2.size, 0, none⟩ : Addr).add 6) = some (.slice x205.p x205.n x205.c) ∧ ∃ x206 : Sl, rd H60 ((⟨H2.size, 0, none⟩ : Addr).add 7) = some (.slice x206.p x206.n x206.c) ∧ (
  ∃ x207 : Int, rd H60 (⟨H2.size, 0, none⟩ : Addr) = some (.int .i64 x207) ∧ ∃ x208 : Sl, rd H60 ((⟨H2.size, 0, none⟩ : Addr).add 1) = some (.slice x208.p x208.n x208.c) ∧ ∃ x209 : Sl, rd H60 ((⟨H2.size, 0, none⟩ : Addr).add 2) = some (.slice x209.p x209.n x209.c) ∧ ∃ x210 : Sl, rd H60 ((⟨H2.size, 0, none⟩ : Addr).add 3) = some (.slice x210.p x210.n x210.c) ∧ ∃ x211 : Sl, rd H60 ((⟨H2.size, 0, none⟩ : Addr).add 4) = some (.slice x211.p x211.n x211.c) ∧ ∃ x212 : Sl, rd H60 ((⟨H2.size, 0, none⟩ : Addr).add 5) = some (.slice x212.p x212.n x212.c) ∧ ∃ x213 : Sl, rd H60 ((⟨H2.size, 0, none⟩ : Addr).add 6) = some (.slice x213.p x213.n x213.c) ∧ ∃ x214 : Sl, rd H60 ((⟨H2.size, 0, none⟩ : Addr).add 7) = some (.slice x214.p x214.n x214.c) ∧ (
  CallsH Try.prog n_allocate_Check #[.slice t1.p t1.n t1.c, .agg #[.int .i64 x199, .slice x200.p x200.n x200.c, .slice x201.p x201.n x201.c, .slice x202.p x202.n x202.c, .slice x203.p x203.n x203.c, .slice x204.p x204.n x204.c, .slice x205.p x205.n x205.c, .slice x206.p x206.n x206.c], .slice x182.p x182.n x182.c] H60 (fun v30 H61 =>
  ∃ x215 : Bool, v30 = .bool x215 ∧ (
  Keeps H60 H61 [((⟨H2.size, 0, none⟩ : Addr), 8)] ∧ (
  CallsH Try.prog n_ref21_Check #[.slice t1.p t1.n t1.c, .agg #[.int .i64 x207, .slice x208.p x208.n x208.c, .slice x209.p x209.n x209.c, .slice x210.p x210.n x210.c, .slice x211.p x211.n x211.c, .slice x212.p x212.n x212.c, .slice x213.p x213.n x213.c, .slice x214.p x214.n x214.c], .slice x182.p x182.n x182.c] H61 (fun v31 H62 =>
  ∃ x216 : Bool, v31 = .bool x216 ∧ (
  R (.bool (x215 == x216)) H62)))))))) (
  CallsH Try.prog n_help_Mod #[.int .i64 atv, .int .i64 (x182.n : Int)] H60 (fun v32 H63 =>
  ∃ k2 : Int, v32 = .int .i64 k2 ∧ (
  runH Try.prog (Builtin.append_ #[t_sl_api_Assignment, t_sl_api_Assignment] t_sl_api_Assignment #[.slice none 0 0, .slice x182.p x182.n x182.c]) H63 (fun v33 H64 =>
  ∃ b6 : Sl, v33 = .slice b6.p b6.n b6.c ∧ (
  ∃ J_8 : Sl → Heap → Prop, (
  iteB ((kind.tmod (5 : Int)) == (0 : Int)) (
  ∃ x217 : Int, rd H64 ((⟨H1.size, 0, none⟩ : Addr).add 4) = some (.int .u64 x217) ∧ (
  0 ≤ k2 ∧ k2 < (b6.n : Int) ∧ (unSome b6.p (fun a14 =>
  okRow H64 ((a14.add (k2.toNat * 5)).add 4) 1 ∧ (
  letH (wrs H64 ((a14.add (k2.toNat * 5)).add 4) [.int .u64 x217]) (fun H65 : Heap =>
  J_8 b6 H65)))))) (
  iteB ((kind.tmod (5 : Int)) == (1 : Int)) (
  ∃ x218 : Int, rd H64 ((⟨H1.size, 0, none⟩ : Addr).add 1) = some (.int .i64 x218) ∧ (
  CallsH Try.prog n_help_Mod #[.int .i64 x218, .int .i64 (x182.n : Int)] H64 (fun v34 H66 =>
  ∃ x219 : Int, v34 = .int .i64 x219 ∧ (
  0 ≤ x219 ∧ x219 < (x182.n : Int) ∧ (unSome x182.p (fun a15 =>
  ∃ x220 : Int, rd H66 ((a15.add (x219.toNat * 5)).add 4) = some (.int .u64 x220) ∧ (
  0 ≤ k2 ∧ k2 < (b6.n : Int) ∧ (unSome b6.p (fun a16 =>
  okRow H66 ((a16.add (k2.toNat * 5)).add 4) 1 ∧ (
  letH (wrs H66 ((a16.add (k2.toNat * 5)).add 4) [.int .u64 x220]) (fun H67 : Heap =>
  J_8 b6 H67))))))))))) (
  iteB ((kind.tmod (5 : Int)) == (2 : Int)) (
  0 ≤ k2 ∧ k2 < (b6.n : Int) ∧ (unSome b6.p (fun a17 =>
  ∃ x221 : Int, rd H64 ((a17.add (k2.toNat * 5)).add 4) = some (.int .u64 x221) ∧ (
  0 ≤ k2 ∧ k2 < (b6.n : Int) ∧ (unSome b6.p (fun a18 =>
  ∃ x222 : Int, rd H64 ((a18.add (k2.toNat * 5)).add 3) = some (.int .i64 x222) ∧ (
  0 ≤ (IntKind.u64.wrap x222) ∧ (
  0 ≤ k2 ∧ k2 < (b6.n : Int) ∧ (unSome b6.p (fun a19 =>
  okRow H64 ((a19.add (k2.toNat * 5)).add 4) 1 ∧ (
  letH (wrs H64 ((a19.add (k2.toNat * 5)).add 4) [.int .u64 (IntKind.u64.wrap (x221 + (IntKind.u64.wrap ((1 : Int) * 2 ^ (min (IntKind.u64.wrap x222).toNat IntKind.u64.bits)))))]) (fun H68 : Heap =>
  J_8 b6 H68)))))))))))) (
  iteB ((kind.tmod (5 : Int)) == (3 : Int)) (
  ∃ x223 : Int, rd H64 (⟨H1.size, 0, none⟩ : Addr) = some (.int .i64 x223) ∧ ∃ x224 : Int, rd H64 ((⟨H1.size, 0, none⟩ : Addr).add 1) = some (.int .i64 x224) ∧ ∃ x225 : Int, rd H64 ((⟨H1.size, 0, none⟩ : Addr).add 2) = some (.int .i64 x225) ∧ ∃ x226 : Int, rd H64 ((⟨H1.size, 0, none⟩ : Addr).add 3) = some (.int .i64 x226) ∧ (
  0 ≤ k2 ∧ k2 < (b6.n : Int) ∧ (unSome b6.p (fun a20 =>
  okRow H64 (a20.add (k2.toNat * 5)) 4 ∧ (
  letH (wrs H64 (a20.add (k2.toNat * 5)) [.int .i64 x223, .int .i64 x224, .int .i64 x225, .int .i64 x226]) (fun H69 : Heap =>
  J_8 b6 H69)))))) (
  iteB ((kind.tmod (5 : Int)) == (4 : Int)) (
  0 ≤ k2 ∧ k2 ≤ (b6.c : Int) ∧ (
  0 ≤ (IntKind.i64.wrap (k2 + (1 : Int))) ∧ (IntKind.i64.wrap (k2 + (1 : Int))) ≤ (b6.n : Int) ∧ (
  runH Try.prog (Builtin.append_ #[t_sl_api_Assignment, t_sl_api_Assignment] t_sl_api_Assignment #[.slice (slP b6.p b6.c 0 5) (k2.toNat - 0) (b6.c - 0), .slice (slP b6.p b6.c ((IntKind.i64.wrap (k2 + (1 : Int))).toNat) 5) (b6.n - (IntKind.i64.wrap (k2 + (1 : Int))).toNat) (b6.c - (IntKind.i64.wrap (k2 + (1 : Int))).toNat)]) H64 (fun v35 H70 =>
  ∃ b7 : Sl, v35 = .slice b7.p b7.n b7.c ∧ (
  J_8 b7 H70))))) (
  J_8 b6 H64)))))) ∧ (∀ b8 : Sl, ∀ H71 : Heap, J_8 b8 H71 → F_law21_AllocateChecks_k7 R H2 t1 b8 H71))))))

def F_law21_AllocateChecks_k9 (R : Value → Heap → Prop) (atv : Int) (kind : Int) (H1 : Heap) (H2 : Heap) (t1 : Sl) (x182 : Sl) (x187 : Int) (H59 : Heap) : Prop :=
  ∃ J_7 : Bool → Heap → Prop, (
  iteB (x187 != (0 : Int)) (
  J_7 true H59) (
  J_7 ((x182.n : Int) == (0 : Int)) H59)) ∧ (∀ x198 : Bool, ∀ H60 : Heap, J_7 x198 H60 → F_law21_AllocateChecks_k8 R atv kind H1 H2 t1 x182 x198 H60)

def F_law21_AllocateChecks (R : Value → Heap → Prop) (l : Sl) (h_0 : Int) (h_1 : Sl) (h_2 : Sl) (h_3 : Sl) (h_4 : Sl) (h_5 : Sl) (h_6 : Sl) (h_7 : Sl) (atv : Int) (x_0 : Int) (x_1 : Int) (x_2 : Int) (x_3 : Int) (x_4 : Int) (kind : Int) (H : Heap) : Prop :=
  letH (H.push (.cells #[.int .i64 h_0, .slice h_1.p h_1.n h_1.c, .slice h_2.p h_2.n h_2.c, .slice h_3.p h_3.n h_3.c, .slice h_4.p h_4.n h_4.c, .slice h_5.p h_5.n h_5.c, .slice h_6.p h_6.n h_6.c, .slice h_7.p h_7.n h_7.c] t_api_Host (0, 0))) (fun H1 : Heap =>
  letH (H1.push (.cells #[.int .i64 x_0, .int .i64 x_1, .int .i64 x_2, .int .i64 x_3, .int .u64 x_4] t_api_Assignment (0, 0))) (fun H2 : Heap =>
  ∃ x : Int, rd H2 (⟨H.size, 0, none⟩ : Addr) = some (.int .i64 x) ∧ ∃ x1 : Sl, rd H2 ((⟨H.size, 0, none⟩ : Addr).add 1) = some (.slice x1.p x1.n x1.c) ∧ ∃ x2 : Sl, rd H2 ((⟨H.size, 0, none⟩ : Addr).add 2) = some (.slice x2.p x2.n x2.c) ∧ ∃ x3 : Sl, rd H2 ((⟨H.size, 0, none⟩ : Addr).add 3) = some (.slice x3.p x3.n x3.c) ∧ ∃ x4 : Sl, rd H2 ((⟨H.size, 0, none⟩ : Addr).add 4) = some (.slice x4.p x4.n x4.c) ∧ ∃ x5 : Sl, rd H2 ((⟨H.size, 0, none⟩ : Addr).add 5) = some (.slice x5.p x5.n x5.c) ∧ ∃ x6 : Sl, rd H2 ((⟨H.size, 0, none⟩ : Addr).add 6) = some (.slice x6.p x6.n x6.c) ∧ ∃ x7 : Sl, rd H2 ((⟨H.size, 0, none⟩ : Addr).add 7) = some (.slice x7.p x7.n x7.c) ∧ (
  (
  CallsH Try.prog n_gen_Topology #[.slice l.p l.n l.c, .int .i64 (24 : Int)] H2 (fun v H3 =>
  ∃ t : Sl, v = .slice t.p t.n t.c ∧ (
  Keeps H2 H3 [((⟨H.size, 0, none⟩ : Addr), 8)] ∧ (
  (
  CallsH Try.prog n_gen_Host #[.agg #[.int .i64 x, .slice x1.p x1.n x1.c, .slice x2.p x2.n x2.c, .slice x3.p x3.n x3.c, .slice x4.p x4.n x4.c, .slice x5.p x5.n x5.c, .slice x6.p x6.n x6.c, .slice x7.p x7.n x7.c]] H3 (fun v1 H4 =>
  ∃ x8 : Int, ∃ x9 : Sl, ∃ x10 : Sl, ∃ x11 : Sl, ∃ x12 : Sl, ∃ x13 : Sl, ∃ x14 : Sl, ∃ x15 : Sl, v1 = .agg #[.int .i64 x8, .slice x9.p x9.n x9.c, .slice x10.p x10.n x10.c, .slice x11.p x11.n x11.c, .slice x12.p x12.n x12.c, .slice x13.p x13.n x13.c, .slice x14.p x14.n x14.c, .slice x15.p x15.n x15.c] ∧ (
  letH (H4.push (.cells #[.int .i64 (0 : Int), .slice none 0 0, .slice none 0 0, .slice none 0 0, .slice none 0 0, .slice none 0 0, .slice none 0 0, .slice none 0 0] t_api_Host (0, 0))) (fun H5 : Heap =>
  Keeps H4 H5 [((⟨H.size, 0, none⟩ : Addr), 8)] ∧ (
  okRow H5 (⟨H4.size, 0, none⟩ : Addr) 8 ∧ (
  letH (wrs H5 (⟨H4.size, 0, none⟩ : Addr) [.int .i64 x8, .slice x9.p x9.n x9.c, .slice x10.p x10.n x10.c, .slice x11.p x11.n x11.c, .slice x12.p x12.n x12.c, .slice x13.p x13.n x13.c, .slice x14.p x14.n x14.c, .slice x15.p x15.n x15.c]) (fun H6 : Heap =>
  ∃ x16 : Int, rd H6 (⟨H4.size, 0, none⟩ : Addr) = some (.int .i64 x16) ∧ ∃ x17 : Sl, rd H6 ((⟨H4.size, 0, none⟩ : Addr).add 1) = some (.slice x17.p x17.n x17.c) ∧ ∃ x18 : Sl, rd H6 ((⟨H4.size, 0, none⟩ : Addr).add 2) = some (.slice x18.p x18.n x18.c) ∧ ∃ x19 : Sl, rd H6 ((⟨H4.size, 0, none⟩ : Addr).add 3) = some (.slice x19.p x19.n x19.c) ∧ ∃ x20 : Sl, rd H6 ((⟨H4.size, 0, none⟩ : Addr).add 4) = some (.slice x20.p x20.n x20.c) ∧ ∃ x21 : Sl, rd H6 ((⟨H4.size, 0, none⟩ : Addr).add 5) = some (.slice x21.p x21.n x21.c) ∧ ∃ x22 : Sl, rd H6 ((⟨H4.size, 0, none⟩ : Addr).add 6) = some (.slice x22.p x22.n x22.c) ∧ ∃ x23 : Sl, rd H6 ((⟨H4.size, 0, none⟩ : Addr).add 7) = some (.slice x23.p x23.n x23.c) ∧ (
  CallsH Try.prog n_allocate_Assign #[.slice t.p t.n t.c, .agg #[.int .i64 x16, .slice x17.p x17.n x17.c, .slice x18.p x18.n x18.c, .slice x19.p x19.n x19.c, .slice x20.p x20.n x20.c, .slice x21.p x21.n x21.c, .slice x22.p x22.n x22.c, .slice x23.p x23.n x23.c]] H6 (fun v2 H7 =>
  ∃ x24 : Sl, ∃ x25 : Int, ∃ x26 : Int, ∃ x27 : Int, ∃ x28 : Int, ∃ x29 : Int, v2 = .tuple #[.slice x24.p x24.n x24.c, .agg #[.int .i64 x25, .int .i64 x26, .int .u64 x27, .int .u64 x28], .int .i64 x29] ∧ (
  letH (H7.push (.cells #[.int .i64 (0 : Int), .int .i64 (0 : Int), .int .u64 (0 : Int), .int .u64 (0 : Int)] t_api_Certificate (0, 0))) (fun H8 : Heap =>
  okRow H8 (⟨H7.size, 0, none⟩ : Addr) 4 ∧ (
  letH (wrs H8 (⟨H7.size, 0, none⟩ : Addr) [.int .i64 x25, .int .i64 x26, .int .u64 x27, .int .u64 x28]) (fun H9 : Heap =>
  ∃ J_ : Heap → Prop, (
  CallsH Try.prog n_law21_awake #[] H9 (fun v3 H10 =>
  ∃ x30 : Bool, v3 = .bool x30 ∧ (
  iteB (!x30) (
  R (.bool false) H10) (
  iteB (x29 == (0 : Int)) (
  ∃ x31 : Int, rd H10 (⟨H4.size, 0, none⟩ : Addr) = some (.int .i64 x31) ∧ ∃ x32 : Sl, rd H10 ((⟨H4.size, 0, none⟩ : Addr).add 1) = some (.slice x32.p x32.n x32.c) ∧ ∃ x33 : Sl, rd H10 ((⟨H4.size, 0, none⟩ : Addr).add 2) = some (.slice x33.p x33.n x33.c) ∧ ∃ x34 : Sl, rd H10 ((⟨H4.size, 0, none⟩ : Addr).add 3) = some (.slice x34.p x34.n x34.c) ∧ ∃ x35 : Sl, rd H10 ((⟨H4.size, 0, none⟩ : Addr).add 4) = some (.slice x35.p x35.n x35.c) ∧ ∃ x36 : Sl, rd H10 ((⟨H4.size, 0, none⟩ : Addr).add 5) = some (.slice x36.p x36.n x36.c) ∧ ∃ x37 : Sl, rd H10 ((⟨H4.size, 0, none⟩ : Addr).add 6) = some (.slice x37.p x37.n x37.c) ∧ ∃ x38 : Sl, rd H10 ((⟨H4.size, 0, none⟩ : Addr).add 7) = some (.slice x38.p x38.n x38.c) ∧ (
  CallsH Try.prog n_allocate_Check #[.slice t.p t.n t.c, .agg #[.int .i64 x31, .slice x32.p x32.n x32.c, .slice x33.p x33.n x33.c, .slice x34.p x34.n x34.c, .slice x35.p x35.n x35.c, .slice x36.p x36.n x36.c, .slice x37.p x37.n x37.c, .slice x38.p x38.n x38.c], .slice x24.p x24.n x24.c] H10 (fun v4 H11 =>
  ∃ x39 : Bool, v4 = .bool x39 ∧ (
  iteB (!x39) (
  R (.bool false) H11) (
  J_ H11))))) (
  J_ H10))))) ∧ (∀ H12 : Heap, J_ H12 → F_law21_AllocateChecks_k3 R atv kind H1 t H4 x24 x29 H12)))))))))))))) ∧ (
  letH (H3.push (.cells #[.int .i64 (0 : Int), .slice none 0 0, .slice none 0 0, .slice none 0 0, .slice none 0 0, .slice none 0 0, .slice none 0 0, .slice none 0 0] t_api_Host (0, 0))) (fun H27 : Heap =>
  Keeps H3 H27 [((⟨H.size, 0, none⟩ : Addr), 8)] ∧ (
  CallsH Try.prog n_gen_Host #[.agg #[.int .i64 x, .slice x1.p x1.n x1.c, .slice x2.p x2.n x2.c, .slice x3.p x3.n x3.c, .slice x4.p x4.n x4.c, .slice x5.p x5.n x5.c, .slice x6.p x6.n x6.c, .slice x7.p x7.n x7.c]] H27 (fun v13 H28 =>
  ∃ x87 : Int, ∃ x88 : Sl, ∃ x89 : Sl, ∃ x90 : Sl, ∃ x91 : Sl, ∃ x92 : Sl, ∃ x93 : Sl, ∃ x94 : Sl, v13 = .agg #[.int .i64 x87, .slice x88.p x88.n x88.c, .slice x89.p x89.n x89.c, .slice x90.p x90.n x90.c, .slice x91.p x91.n x91.c, .slice x92.p x92.n x92.c, .slice x93.p x93.n x93.c, .slice x94.p x94.n x94.c] ∧ (
  okRow H28 (⟨H3.size, 0, none⟩ : Addr) 8 ∧ (
  letH (wrs H28 (⟨H3.size, 0, none⟩ : Addr) [.int .i64 x87, .slice x88.p x88.n x88.c, .slice x89.p x89.n x89.c, .slice x90.p x90.n x90.c, .slice x91.p x91.n x91.c, .slice x92.p x92.n x92.c, .slice x93.p x93.n x93.c, .slice x94.p x94.n x94.c]) (fun H29 : Heap =>
  ∃ x95 : Int, rd H29 (⟨H3.size, 0, none⟩ : Addr) = some (.int .i64 x95) ∧ ∃ x96 : Sl, rd H29 ((⟨H3.size, 0, none⟩ : Addr).add 1) = some (.slice x96.p x96.n x96.c) ∧ ∃ x97 : Sl, rd H29 ((⟨H3.size, 0, none⟩ : Addr).add 2) = some (.slice x97.p x97.n x97.c) ∧ ∃ x98 : Sl, rd H29 ((⟨H3.size, 0, none⟩ : Addr).add 3) = some (.slice x98.p x98.n x98.c) ∧ ∃ x99 : Sl, rd H29 ((⟨H3.size, 0, none⟩ : Addr).add 4) = some (.slice x99.p x99.n x99.c) ∧ ∃ x100 : Sl, rd H29 ((⟨H3.size, 0, none⟩ : Addr).add 5) = some (.slice x100.p x100.n x100.c) ∧ ∃ x101 : Sl, rd H29 ((⟨H3.size, 0, none⟩ : Addr).add 6) = some (.slice x101.p x101.n x101.c) ∧ ∃ x102 : Sl, rd H29 ((⟨H3.size, 0, none⟩ : Addr).add 7) = some (.slice x102.p x102.n x102.c) ∧ (
  CallsH Try.prog n_allocate_Assign #[.slice t.p t.n t.c, .agg #[.int .i64 x95, .slice x96.p x96.n x96.c, .slice x97.p x97.n x97.c, .slice x98.p x98.n x98.c, .slice x99.p x99.n x99.c, .slice x100.p x100.n x100.c, .slice x101.p x101.n x101.c, .slice x102.p x102.n x102.c]] H29 (fun v14 H30 =>
  ∃ x103 : Sl, ∃ x104 : Int, ∃ x105 : Int, ∃ x106 : Int, ∃ x107 : Int, ∃ x108 : Int, v14 = .tuple #[.slice x103.p x103.n x103.c, .agg #[.int .i64 x104, .int .i64 x105, .int .u64 x106, .int .u64 x107], .int .i64 x108] ∧ (
  letH (H30.push (.cells #[.int .i64 (0 : Int), .int .i64 (0 : Int), .int .u64 (0 : Int), .int .u64 (0 : Int)] t_api_Certificate (0, 0))) (fun H31 : Heap =>
  okRow H31 (⟨H30.size, 0, none⟩ : Addr) 4 ∧ (
  letH (wrs H31 (⟨H30.size, 0, none⟩ : Addr) [.int .i64 x104, .int .i64 x105, .int .u64 x106, .int .u64 x107]) (fun H32 : Heap =>
  ∃ J_3 : Heap → Prop, (
  CallsH Try.prog n_law21_awake #[] H32 (fun v15 H33 =>
  ∃ x109 : Bool, v15 = .bool x109 ∧ (
  iteB (!x109) (
  R (.bool false) H33) (
  iteB (x108 == (0 : Int)) (
  ∃ x110 : Int, rd H33 (⟨H3.size, 0, none⟩ : Addr) = some (.int .i64 x110) ∧ ∃ x111 : Sl, rd H33 ((⟨H3.size, 0, none⟩ : Addr).add 1) = some (.slice x111.p x111.n x111.c) ∧ ∃ x112 : Sl, rd H33 ((⟨H3.size, 0, none⟩ : Addr).add 2) = some (.slice x112.p x112.n x112.c) ∧ ∃ x113 : Sl, rd H33 ((⟨H3.size, 0, none⟩ : Addr).add 3) = some (.slice x113.p x113.n x113.c) ∧ ∃ x114 : Sl, rd H33 ((⟨H3.size, 0, none⟩ : Addr).add 4) = some (.slice x114.p x114.n x114.c) ∧ ∃ x115 : Sl, rd H33 ((⟨H3.size, 0, none⟩ : Addr).add 5) = some (.slice x115.p x115.n x115.c) ∧ ∃ x116 : Sl, rd H33 ((⟨H3.size, 0, none⟩ : Addr).add 6) = some (.slice x116.p x116.n x116.c) ∧ ∃ x117 : Sl, rd H33 ((⟨H3.size, 0, none⟩ : Addr).add 7) = some (.slice x117.p x117.n x117.c) ∧ (
  CallsH Try.prog n_allocate_Check #[.slice t.p t.n t.c, .agg #[.int .i64 x110, .slice x111.p x111.n x111.c, .slice x112.p x112.n x112.c, .slice x113.p x113.n x113.c, .slice x114.p x114.n x114.c, .slice x115.p x115.n x115.c, .slice x116.p x116.n x116.c, .slice x117.p x117.n x117.c], .slice x103.p x103.n x103.c] H33 (fun v16 H34 =>
  ∃ x118 : Bool, v16 = .bool x118 ∧ (
  iteB (!x118) (
  R (.bool false) H34) (
  J_3 H34))))) (
  J_3 H33))))) ∧ (∀ H35 : Heap, J_3 H35 → F_law21_AllocateChecks_k6 R atv kind H1 H3 t x103 x108 H35)))))))))))))))))) ∧ (
  letH (H2.push (.cells #[.int .i64 (0 : Int), .slice none 0 0, .slice none 0 0, .slice none 0 0, .slice none 0 0, .slice none 0 0, .slice none 0 0, .slice none 0 0] t_api_Host (0, 0))) (fun H50 : Heap =>
  Keeps H2 H50 [((⟨H.size, 0, none⟩ : Addr), 8)] ∧ (
  CallsH Try.prog n_gen_Topology #[.slice l.p l.n l.c, .int .i64 (24 : Int)] H50 (fun v25 H51 =>
  ∃ t1 : Sl, v25 = .slice t1.p t1.n t1.c ∧ (
  Keeps H50 H51 [((⟨H.size, 0, none⟩ : Addr), 8)] ∧ (
  CallsH Try.prog n_gen_Host #[.agg #[.int .i64 x, .slice x1.p x1.n x1.c, .slice x2.p x2.n x2.c, .slice x3.p x3.n x3.c, .slice x4.p x4.n x4.c, .slice x5.p x5.n x5.c, .slice x6.p x6.n x6.c, .slice x7.p x7.n x7.c]] H51 (fun v26 H52 =>
  ∃ x166 : Int, ∃ x167 : Sl, ∃ x168 : Sl, ∃ x169 : Sl, ∃ x170 : Sl, ∃ x171 : Sl, ∃ x172 : Sl, ∃ x173 : Sl, v26 = .agg #[.int .i64 x166, .slice x167.p x167.n x167.c, .slice x168.p x168.n x168.c, .slice x169.p x169.n x169.c, .slice x170.p x170.n x170.c, .slice x171.p x171.n x171.c, .slice x172.p x172.n x172.c, .slice x173.p x173.n x173.c] ∧ (
  okRow H52 (⟨H2.size, 0, none⟩ : Addr) 8 ∧ (
  letH (wrs H52 (⟨H2.size, 0, none⟩ : Addr) [.int .i64 x166, .slice x167.p x167.n x167.c, .slice x168.p x168.n x168.c, .slice x169.p x169.n x169.c, .slice x170.p x170.n x170.c, .slice x171.p x171.n x171.c, .slice x172.p x172.n x172.c, .slice x173.p x173.n x173.c]) (fun H53 : Heap =>
  ∃ x174 : Int, rd H53 (⟨H2.size, 0, none⟩ : Addr) = some (.int .i64 x174) ∧ ∃ x175 : Sl, rd H53 ((⟨H2.size, 0, none⟩ : Addr).add 1) = some (.slice x175.p x175.n x175.c) ∧ ∃ x176 : Sl, rd H53 ((⟨H2.size, 0, none⟩ : Addr).add 2) = some (.slice x176.p x176.n x176.c) ∧ ∃ x177 : Sl, rd H53 ((⟨H2.size, 0, none⟩ : Addr).add 3) = some (.slice x177.p x177.n x177.c) ∧ ∃ x178 : Sl, rd H53 ((⟨H2.size, 0, none⟩ : Addr).add 4) = some (.slice x178.p x178.n x178.c) ∧ ∃ x179 : Sl, rd H53 ((⟨H2.size, 0, none⟩ : Addr).add 5) = some (.slice x179.p x179.n x179.c) ∧ ∃ x180 : Sl, rd H53 ((⟨H2.size, 0, none⟩ : Addr).add 6) = some (.slice x180.p x180.n x180.c) ∧ ∃ x181 : Sl, rd H53 ((⟨H2.size, 0, none⟩ : Addr).add 7) = some (.slice x181.p x181.n x181.c) ∧ (
  CallsH Try.prog n_allocate_Assign #[.slice t1.p t1.n t1.c, .agg #[.int .i64 x174, .slice x175.p x175.n x175.c, .slice x176.p x176.n x176.c, .slice x177.p x177.n x177.c, .slice x178.p x178.n x178.c, .slice x179.p x179.n x179.c, .slice x180.p x180.n x180.c, .slice x181.p x181.n x181.c]] H53 (fun v27 H54 =>
  ∃ x182 : Sl, ∃ x183 : Int, ∃ x184 : Int, ∃ x185 : Int, ∃ x186 : Int, ∃ x187 : Int, v27 = .tuple #[.slice x182.p x182.n x182.c, .agg #[.int .i64 x183, .int .i64 x184, .int .u64 x185, .int .u64 x186], .int .i64 x187] ∧ (
  letH (H54.push (.cells #[.int .i64 (0 : Int), .int .i64 (0 : Int), .int .u64 (0 : Int), .int .u64 (0 : Int)] t_api_Certificate (0, 0))) (fun H55 : Heap =>
  okRow H55 (⟨H54.size, 0, none⟩ : Addr) 4 ∧ (
  letH (wrs H55 (⟨H54.size, 0, none⟩ : Addr) [.int .i64 x183, .int .i64 x184, .int .u64 x185, .int .u64 x186]) (fun H56 : Heap =>
  ∃ J_6 : Heap → Prop, (
  CallsH Try.prog n_law21_awake #[] H56 (fun v28 H57 =>
  ∃ x188 : Bool, v28 = .bool x188 ∧ (
  iteB (!x188) (
  R (.bool false) H57) (
  iteB (x187 == (0 : Int)) (
  ∃ x189 : Int, rd H57 (⟨H2.size, 0, none⟩ : Addr) = some (.int .i64 x189) ∧ ∃ x190 : Sl, rd H57 ((⟨H2.size, 0, none⟩ : Addr).add 1) = some (.slice x190.p x190.n x190.c) ∧ ∃ x191 : Sl, rd H57 ((⟨H2.size, 0, none⟩ : Addr).add 2) = some (.slice x191.p x191.n x191.c) ∧ ∃ x192 : Sl, rd H57 ((⟨H2.size, 0, none⟩ : Addr).add 3) = some (.slice x192.p x192.n x192.c) ∧ ∃ x193 : Sl, rd H57 ((⟨H2.size, 0, none⟩ : Addr).add 4) = some (.slice x193.p x193.n x193.c) ∧ ∃ x194 : Sl, rd H57 ((⟨H2.size, 0, none⟩ : Addr).add 5) = some (.slice x194.p x194.n x194.c) ∧ ∃ x195 : Sl, rd H57 ((⟨H2.size, 0, none⟩ : Addr).add 6) = some (.slice x195.p x195.n x195.c) ∧ ∃ x196 : Sl, rd H57 ((⟨H2.size, 0, none⟩ : Addr).add 7) = some (.slice x196.p x196.n x196.c) ∧ (
  CallsH Try.prog n_allocate_Check #[.slice t1.p t1.n t1.c, .agg #[.int .i64 x189, .slice x190.p x190.n x190.c, .slice x191.p x191.n x191.c, .slice x192.p x192.n x192.c, .slice x193.p x193.n x193.c, .slice x194.p x194.n x194.c, .slice x195.p x195.n x195.c, .slice x196.p x196.n x196.c], .slice x182.p x182.n x182.c] H57 (fun v29 H58 =>
  ∃ x197 : Bool, v29 = .bool x197 ∧ (
  iteB (!x197) (
  R (.bool false) H58) (
  J_6 H58))))) (
  J_6 H57))))) ∧ (∀ H59 : Heap, J_6 H59 → F_law21_AllocateChecks_k9 R atv kind H1 H2 t1 x182 x187 H59))))))))))))))))))))

theorem F_law21_AllocateChecks_eq (R : Value → Heap → Prop) (l : Sl) (h_0 : Int) (h_1 : Sl) (h_2 : Sl) (h_3 : Sl) (h_4 : Sl) (h_5 : Sl) (h_6 : Sl) (h_7 : Sl) (atv : Int) (x_0 : Int) (x_1 : Int) (x_2 : Int) (x_3 : Int) (x_4 : Int) (kind : Int) (H : Heap) : wpF Try.prog Try.f9 [(17, .slice none 0 0), (48, .bool false)] [(5, [], [2, 4, 8, 11, 12, 13, 15]), (6, [48], [2, 4, 8, 11, 12, 13]), (20, [17], [11, 12])] [] [17] [.slice l.p l.n l.c, .agg #[.int .i64 h_0, .slice h_1.p h_1.n h_1.c, .slice h_2.p h_2.n h_2.c, .slice h_3.p h_3.n h_3.c, .slice h_4.p h_4.n h_4.c, .slice h_5.p h_5.n h_5.c, .slice h_6.p h_6.n h_6.c, .slice h_7.p h_7.n h_7.c], .int .i64 atv, .agg #[.int .i64 x_0, .int .i64 x_1, .int .i64 x_2, .int .i64 x_3, .int .u64 x_4], .int .u8 kind] H R = F_law21_AllocateChecks R l h_0 h_1 h_2 h_3 h_4 h_5 h_6 h_7 atv x_0 x_1 x_2 x_3 x_4 kind H := by kernel_rfl

theorem F_law21_AllocateChecks_ok {R : Value → Heap → Prop} (l : Sl) (h_0 : Int) (h_1 : Sl) (h_2 : Sl) (h_3 : Sl) (h_4 : Sl) (h_5 : Sl) (h_6 : Sl) (h_7 : Sl) (atv : Int) (x_0 : Int) (x_1 : Int) (x_2 : Int) (x_3 : Int) (x_4 : Int) (kind : Int) {H : Heap} (h : F_law21_AllocateChecks R l h_0 h_1 h_2 h_3 h_4 h_5 h_6 h_7 atv x_0 x_1 x_2 x_3 x_4 kind H) : CallsH Try.prog n_law21_AllocateChecks #[.slice l.p l.n l.c, .agg #[.int .i64 h_0, .slice h_1.p h_1.n h_1.c, .slice h_2.p h_2.n h_2.c, .slice h_3.p h_3.n h_3.c, .slice h_4.p h_4.n h_4.c, .slice h_5.p h_5.n h_5.c, .slice h_6.p h_6.n h_6.c, .slice h_7.p h_7.n h_7.c], .int .i64 atv, .agg #[.int .i64 x_0, .int .i64 x_1, .int .i64 x_2, .int .i64 x_3, .int .u64 x_4], .int .u8 kind] H R :=
  wpF_ok Try.func9 (F_law21_AllocateChecks_eq R l h_0 h_1 h_2 h_3 h_4 h_5 h_6 h_7 atv x_0 x_1 x_2 x_3 x_4 kind H) h

/-! ### 10: platformfw/allocate.Place -/

def F_allocate_Place_r1 (R : Value → Heap → Prop) (H : Heap) (free : Sl) (H1 : Heap) (H3 : Heap) (x2 : Sl) (H9 : Heap) (x4 : Sl) (I_1 : Sl → Int → Heap → Prop) (M_1 : Sl → Int → Heap → Nat) (left1 : Sl) (x5 : Int) (H11 : Heap) : Prop :=
  iteB (decide (x5 < (((x2.n : Int).toNat : Nat) : Int))) (
  0 ≤ x5 ∧ x5 < (((x2.n : Int).toNat : Nat) : Int) ∧ (∃ item : Int, rd H11 ((⟨H3.size, 0, none⟩ : Addr).add (x5.toNat * 1)) = some (.int .i64 item) ∧ (
  ∃ x6 : Sl, rd H11 (⟨H.size, 0, none⟩ : Addr) = some (.slice x6.p x6.n x6.c) ∧ (
  0 ≤ item ∧ item < (x6.n : Int) ∧ (unSome x6.p (fun a =>
  ∃ x7 : Int, rd H11 (a.add (item.toNat * 1)) = some (.int .i64 x7) ∧ (
  CallsH Try.prog n_allocate_take #[.slice left1.p left1.n left1.c, .int .i64 x7] H11 (fun v3 H12 =>
  ∃ x8 : Int, ∃ x9 : Sl, ∃ x10 : Bool, v3 = .tuple #[.int .u64 x8, .slice x9.p x9.n x9.c, .bool x10] ∧ (
  iteB (!x10) (
  ∃ x11 : Sl, rd H12 (⟨H.size, 0, none⟩ : Addr) = some (.slice x11.p x11.n x11.c) ∧ (
  CallsH Try.prog n_allocate_merged #[.slice free.p free.n free.c] H12 (fun v4 H13 =>
  ∃ x12 : Sl, v4 = .slice x12.p x12.n x12.c ∧ (
  Keeps H12 H13 [((⟨H.size, 0, none⟩ : Addr), 1)] ∧ (
  CallsH Try.prog n_allocate_certificate #[.slice x12.p x12.n x12.c, .slice x11.p x11.n x11.c] H13 (fun v5 H14 =>
  ∃ x13 : Int, ∃ x14 : Int, ∃ x15 : Int, ∃ x16 : Int, v5 = .agg #[.int .i64 x13, .int .i64 x14, .int .u64 x15, .int .u64 x16] ∧ (
  okRow H14 (⟨H1.size, 0, none⟩ : Addr) 4 ∧ (
  letH (wrs H14 (⟨H1.size, 0, none⟩ : Addr) [.int .i64 x13, .int .i64 x14, .int .u64 x15, .int .u64 x16]) (fun H15 : Heap =>
  ∃ r4 : Int, rd H15 (⟨H1.size, 0, none⟩ : Addr) = some (.int .i64 r4) ∧ ∃ r5 : Int, rd H15 ((⟨H1.size, 0, none⟩ : Addr).add 1) = some (.int .i64 r5) ∧ ∃ r6 : Int, rd H15 ((⟨H1.size, 0, none⟩ : Addr).add 2) = some (.int .u64 r6) ∧ ∃ r7 : Int, rd H15 ((⟨H1.size, 0, none⟩ : Addr).add 3) = some (.int .u64 r7) ∧ (
  R (.tuple #[.slice none 0 0, .agg #[.int .i64 r4, .int .i64 r5, .int .u64 r6, .int .u64 r7], .int .i64 (19 : Int)]) H15)))))))))) (
  0 ≤ item ∧ item < (((x4.n : Int).toNat : Nat) : Int) ∧ (okRow H12 ((⟨H9.size, 0, none⟩ : Addr).add (item.toNat * 1)) 1 ∧ (
  letH (wrs H12 ((⟨H9.size, 0, none⟩ : Addr).add (item.toNat * 1)) [.int .u64 x8]) (fun H16 : Heap =>
  I_1 x9 (IntKind.i64.wrap (x5 + (1 : Int))) H16 ∧ M_1 x9 (IntKind.i64.wrap (x5 + (1 : Int))) H16 < M_1 left1 x5 H11))))))))))))) (
  okRow H11 (⟨H1.size, 0, none⟩ : Addr) 4 ∧ (
  letH (wrs H11 (⟨H1.size, 0, none⟩ : Addr) [.int .i64 (0 : Int), .int .i64 (0 : Int), .int .u64 (0 : Int), .int .u64 (0 : Int)]) (fun H17 : Heap =>
  ∃ r8 : Int, rd H17 (⟨H1.size, 0, none⟩ : Addr) = some (.int .i64 r8) ∧ ∃ r9 : Int, rd H17 ((⟨H1.size, 0, none⟩ : Addr).add 1) = some (.int .i64 r9) ∧ ∃ r10 : Int, rd H17 ((⟨H1.size, 0, none⟩ : Addr).add 2) = some (.int .u64 r10) ∧ ∃ r11 : Int, rd H17 ((⟨H1.size, 0, none⟩ : Addr).add 3) = some (.int .u64 r11) ∧ (
  R (.tuple #[.slice (some (⟨H9.size, 0, none⟩ : Addr)) ((x4.n : Int).toNat) ((x4.n : Int).toNat), .agg #[.int .i64 r8, .int .i64 r9, .int .u64 r10, .int .u64 r11], .int .i64 (0 : Int)]) H17))))

def F_allocate_Place_r2 (R : Value → Heap → Prop) (H : Heap) (free : Sl) (H1 : Heap) (H3 : Heap) (x2 : Sl) (I_ : Int → Heap → Prop) (M_ : Int → Heap → Nat) (x3 : Int) (H6 : Heap) : Prop :=
  iteB (decide (x3 < (((x2.n : Int).toNat : Nat) : Int))) (
  0 ≤ x3 ∧ x3 < (((x2.n : Int).toNat : Nat) : Int) ∧ (okRow H6 ((⟨H3.size, 0, none⟩ : Addr).add (x3.toNat * 1)) 1 ∧ (
  letH (wrs H6 ((⟨H3.size, 0, none⟩ : Addr).add (x3.toNat * 1)) [.int .i64 x3]) (fun H7 : Heap =>
  I_ (IntKind.i64.wrap (x3 + (1 : Int))) H7 ∧ M_ (IntKind.i64.wrap (x3 + (1 : Int))) H7 < M_ x3 H6)))) (
  CallsH Try.prog n_slices_SortStableFunc_sl_int_int #[.slice (some (⟨H3.size, 0, none⟩ : Addr)) ((x2.n : Int).toNat) ((x2.n : Int).toNat), .func (.func 35) #[] #[.pointer (some (⟨H.size, 0, none⟩ : Addr))]] H6 (fun v1 H8 =>
  v1 = .tuple #[] ∧ (
  CallsH Try.prog n_allocate_merged #[.slice free.p free.n free.c] H8 (fun v2 H9 =>
  ∃ left : Sl, v2 = .slice left.p left.n left.c ∧ (
  ∃ x4 : Sl, rd H9 (⟨H.size, 0, none⟩ : Addr) = some (.slice x4.p x4.n x4.c) ∧ (
  0 ≤ (x4.n : Int) ∧ (x4.n : Int) ≤ (x4.n : Int) ∧ (x4.n : Int) * ((8 : Nat) : Int) ≤ 281474976710656 ∧ (
  letH (H9.push (.cells (zeroRow (.int .u64 (0 : Int)) (x4.n : Int).toNat) t_uint64 (0, 0))) (fun H10 : Heap =>
  ∃ I_1 : Sl → Int → Heap → Prop, ∃ M_1 : Sl → Int → Heap → Nat, I_1 left (0 : Int) H10 ∧ (∀ left1 : Sl, ∀ x5 : Int, ∀ H11 : Heap, I_1 left1 x5 H11 → F_allocate_Place_r1 R H free H1 H3 x2 H9 x4 I_1 M_1 left1 x5 H11)))))))))

def F_allocate_Place (R : Value → Heap → Prop) (free : Sl) (sizes : Sl) (H : Heap) : Prop :=
  letH (H.push (.cells #[.slice sizes.p sizes.n sizes.c] t_sl_int (0, 0))) (fun H1 : Heap =>
  letH (H1.push (.cells #[.int .i64 (0 : Int), .int .i64 (0 : Int), .int .u64 (0 : Int), .int .u64 (0 : Int)] t_api_Certificate (0, 0))) (fun H2 : Heap =>
  ∃ x : Sl, rd H2 (⟨H.size, 0, none⟩ : Addr) = some (.slice x.p x.n x.c) ∧ (
  CallsH Try.prog n_allocate_placeable #[.slice free.p free.n free.c, .slice x.p x.n x.c] H2 (fun v H3 =>
  ∃ x1 : Bool, v = .bool x1 ∧ (
  iteB (!x1) (
  okRow H3 (⟨H1.size, 0, none⟩ : Addr) 4 ∧ (
  letH (wrs H3 (⟨H1.size, 0, none⟩ : Addr) [.int .i64 (0 : Int), .int .i64 (0 : Int), .int .u64 (0 : Int), .int .u64 (0 : Int)]) (fun H4 : Heap =>
  ∃ r : Int, rd H4 (⟨H1.size, 0, none⟩ : Addr) = some (.int .i64 r) ∧ ∃ r1 : Int, rd H4 ((⟨H1.size, 0, none⟩ : Addr).add 1) = some (.int .i64 r1) ∧ ∃ r2 : Int, rd H4 ((⟨H1.size, 0, none⟩ : Addr).add 2) = some (.int .u64 r2) ∧ ∃ r3 : Int, rd H4 ((⟨H1.size, 0, none⟩ : Addr).add 3) = some (.int .u64 r3) ∧ (
  R (.tuple #[.slice none 0 0, .agg #[.int .i64 r, .int .i64 r1, .int .u64 r2, .int .u64 r3], .int .i64 (1 : Int)]) H4)))) (
  ∃ x2 : Sl, rd H3 (⟨H.size, 0, none⟩ : Addr) = some (.slice x2.p x2.n x2.c) ∧ (
  0 ≤ (x2.n : Int) ∧ (x2.n : Int) ≤ (x2.n : Int) ∧ (x2.n : Int) * ((8 : Nat) : Int) ≤ 281474976710656 ∧ (
  letH (H3.push (.cells (zeroRow (.int .i64 (0 : Int)) (x2.n : Int).toNat) t_int (0, 0))) (fun H5 : Heap =>
  ∃ I_ : Int → Heap → Prop, ∃ M_ : Int → Heap → Nat, I_ (0 : Int) H5 ∧ (∀ x3 : Int, ∀ H6 : Heap, I_ x3 H6 → F_allocate_Place_r2 R H free H1 H3 x2 I_ M_ x3 H6))))))))))

theorem F_allocate_Place_eq (R : Value → Heap → Prop) (free : Sl) (sizes : Sl) (H : Heap) : wpF Try.prog Try.f10 [(9, .slice none 0 0), (26, .int .i64 0), (44, .int .i64 0)] [] [(5, [26], [0, 3, 5, 7, 25]), (13, [9, 44], [0, 3, 5, 10, 42, 43])] [17] [.slice free.p free.n free.c, .slice sizes.p sizes.n sizes.c] H R = F_allocate_Place R free sizes H := by kernel_rfl

theorem F_allocate_Place_ok {R : Value → Heap → Prop} (free : Sl) (sizes : Sl) {H : Heap} (h : F_allocate_Place R free sizes H) : CallsH Try.prog n_allocate_Place #[.slice free.p free.n free.c, .slice sizes.p sizes.n sizes.c] H R :=
  wpF_ok Try.func10 (F_allocate_Place_eq R free sizes H) h

/-! ### 11: platformfw/platformfwref21.Place -/

def F_ref21_Place_r1 (sizes : Sl) (H4 : Heap) (k : Int) (left2 : Sl) (i : Int) (J_1 : Bool → Heap → Prop) (I_2 : Bool → Int → Heap → Prop) (M_2 : Bool → Int → Heap → Nat) (found : Bool) (j : Int) (H10 : Heap) : Prop :=
  iteB (decide (j < (left2.n : Int))) (
  iteB (!found) (
  0 ≤ j ∧ j < (left2.n : Int) ∧ (unSome left2.p (fun a1 =>
  ∃ x4 : Int, rd H10 (a1.add (j.toNat * 2)) = some (.int .u64 x4) ∧ (
  CallsH Try.prog n_ref21_up #[.int .u64 x4, .int .i64 k] H10 (fun v3 H11 =>
  ∃ atv : Int, v3 = .int .u64 atv ∧ (
  0 ≤ (IntKind.u64.wrap k) ∧ (
  0 ≤ j ∧ j < (left2.n : Int) ∧ (unSome left2.p (fun a2 =>
  ∃ x5 : Int, rd H11 (a2.add (j.toNat * 2)) = some (.int .u64 x5) ∧ (
  0 ≤ j ∧ j < (left2.n : Int) ∧ (unSome left2.p (fun a3 =>
  ∃ x6 : Int, rd H11 ((a3.add (j.toNat * 2)).add 1) = some (.int .u64 x6) ∧ (
  iteB (decide ((IntKind.u64.wrap (atv + (IntKind.u64.wrap ((1 : Int) * 2 ^ (min (IntKind.u64.wrap k).toNat IntKind.u64.bits))))) ≤ (IntKind.u64.wrap (x5 + x6)))) (
  0 ≤ i ∧ i < (((sizes.n : Int).toNat : Nat) : Int) ∧ (okRow H11 ((⟨H4.size, 0, none⟩ : Addr).add (i.toNat * 1)) 1 ∧ (
  letH (wrs H11 ((⟨H4.size, 0, none⟩ : Addr).add (i.toNat * 1)) [.int .u64 atv]) (fun H12 : Heap =>
  letV (IntKind.i64.wrap (j + (1 : Int))) (fun j1 : Int =>
  I_2 true j1 H12 ∧ M_2 true j1 H12 < M_2 found j H10))))) (
  letV (IntKind.i64.wrap (j + (1 : Int))) (fun j2 : Int =>
  I_2 found j2 H11 ∧ M_2 found j2 H11 < M_2 found j H10))))))))))))))) (
  J_1 found H10)) (
  J_1 found H10)

def F_ref21_Place_k2 (R : Value → Heap → Prop) (H : Heap) (free : Sl) (sizes : Sl) (H4 : Heap) (k : Int) (I_1 : Sl → Int → Heap → Prop) (M_1 : Sl → Int → Heap → Nat) (left2 : Sl) (i : Int) (H9 : Heap) (found1 : Bool) (H13 : Heap) : Prop :=
  iteB (!found1) (
  CallsH Try.prog n_ref21_refusal #[.slice free.p free.n free.c, .slice sizes.p sizes.n sizes.c] H13 (fun v4 H14 =>
  ∃ x7 : Int, ∃ x8 : Int, ∃ x9 : Int, ∃ x10 : Int, v4 = .agg #[.int .i64 x7, .int .i64 x8, .int .u64 x9, .int .u64 x10] ∧ (
  okRow H14 (⟨H.size, 0, none⟩ : Addr) 4 ∧ (
  letH (wrs H14 (⟨H.size, 0, none⟩ : Addr) [.int .i64 x7, .int .i64 x8, .int .u64 x9, .int .u64 x10]) (fun H15 : Heap =>
  ∃ r4 : Int, rd H15 (⟨H.size, 0, none⟩ : Addr) = some (.int .i64 r4) ∧ ∃ r5 : Int, rd H15 ((⟨H.size, 0, none⟩ : Addr).add 1) = some (.int .i64 r5) ∧ ∃ r6 : Int, rd H15 ((⟨H.size, 0, none⟩ : Addr).add 2) = some (.int .u64 r6) ∧ ∃ r7 : Int, rd H15 ((⟨H.size, 0, none⟩ : Addr).add 3) = some (.int .u64 r7) ∧ (
  R (.tuple #[.slice none 0 0, .agg #[.int .i64 r4, .int .i64 r5, .int .u64 r6, .int .u64 r7], .int .i64 (19 : Int)]) H15)))))) (
  0 ≤ i ∧ i < (((sizes.n : Int).toNat : Nat) : Int) ∧ (∃ x11 : Int, rd H13 ((⟨H4.size, 0, none⟩ : Addr).add (i.toNat * 1)) = some (.int .u64 x11) ∧ (
  0 ≤ (IntKind.u64.wrap k) ∧ (
  CallsH Try.prog n_ref21_remove #[.slice left2.p left2.n left2.c, .agg #[.int .u64 x11, .int .u64 (IntKind.u64.wrap ((1 : Int) * 2 ^ (min (IntKind.u64.wrap k).toNat IntKind.u64.bits)))]] H13 (fun v5 H16 =>
  ∃ left3 : Sl, v5 = .slice left3.p left3.n left3.c ∧ (
  letV (IntKind.i64.wrap (i + (1 : Int))) (fun i2 : Int =>
  I_1 left3 i2 H16 ∧ M_1 left3 i2 H16 < M_1 left2 i H9)))))))

def F_ref21_Place_r3 (R : Value → Heap → Prop) (H : Heap) (free : Sl) (sizes : Sl) (H4 : Heap) (I_ : Sl → Int → Heap → Prop) (M_ : Sl → Int → Heap → Nat) (left1 : Sl) (k : Int) (H8 : Heap) (I_1 : Sl → Int → Heap → Prop) (M_1 : Sl → Int → Heap → Nat) (left2 : Sl) (i : Int) (H9 : Heap) : Prop :=
  iteB (decide (i < (sizes.n : Int))) (
  0 ≤ i ∧ i < (sizes.n : Int) ∧ (unSome sizes.p (fun a =>
  ∃ x3 : Int, rd H9 (a.add (i.toNat * 1)) = some (.int .i64 x3) ∧ (
  iteB (x3 != k) (
  letV (IntKind.i64.wrap (i + (1 : Int))) (fun i1 : Int =>
  I_1 left2 i1 H9 ∧ M_1 left2 i1 H9 < M_1 left2 i H9)) (
  ∃ J_1 : Bool → Heap → Prop, (
  ∃ I_2 : Bool → Int → Heap → Prop, ∃ M_2 : Bool → Int → Heap → Nat, I_2 false (0 : Int) H9 ∧ (∀ found : Bool, ∀ j : Int, ∀ H10 : Heap, I_2 found j H10 → F_ref21_Place_r1 sizes H4 k left2 i J_1 I_2 M_2 found j H10)) ∧ (∀ found1 : Bool, ∀ H13 : Heap, J_1 found1 H13 → F_ref21_Place_k2 R H free sizes H4 k I_1 M_1 left2 i H9 found1 H13)))))) (
  letV (IntKind.i64.wrap (k - (1 : Int))) (fun k1 : Int =>
  I_ left2 k1 H9 ∧ M_ left2 k1 H9 < M_ left1 k H8))

def F_ref21_Place_r4 (R : Value → Heap → Prop) (H : Heap) (free : Sl) (sizes : Sl) (H4 : Heap) (I_ : Sl → Int → Heap → Prop) (M_ : Sl → Int → Heap → Nat) (left1 : Sl) (k : Int) (H8 : Heap) : Prop :=
  iteB (decide (k ≥ (0 : Int))) (
  ∃ I_1 : Sl → Int → Heap → Prop, ∃ M_1 : Sl → Int → Heap → Nat, I_1 left1 (0 : Int) H8 ∧ (∀ left2 : Sl, ∀ i : Int, ∀ H9 : Heap, I_1 left2 i H9 → F_ref21_Place_r3 R H free sizes H4 I_ M_ left1 k H8 I_1 M_1 left2 i H9)) (
  okRow H8 (⟨H.size, 0, none⟩ : Addr) 4 ∧ (
  letH (wrs H8 (⟨H.size, 0, none⟩ : Addr) [.int .i64 (0 : Int), .int .i64 (0 : Int), .int .u64 (0 : Int), .int .u64 (0 : Int)]) (fun H17 : Heap =>
  ∃ r8 : Int, rd H17 (⟨H.size, 0, none⟩ : Addr) = some (.int .i64 r8) ∧ ∃ r9 : Int, rd H17 ((⟨H.size, 0, none⟩ : Addr).add 1) = some (.int .i64 r9) ∧ ∃ r10 : Int, rd H17 ((⟨H.size, 0, none⟩ : Addr).add 2) = some (.int .u64 r10) ∧ ∃ r11 : Int, rd H17 ((⟨H.size, 0, none⟩ : Addr).add 3) = some (.int .u64 r11) ∧ (
  R (.tuple #[.slice (some (⟨H4.size, 0, none⟩ : Addr)) ((sizes.n : Int).toNat) ((sizes.n : Int).toNat), .agg #[.int .i64 r8, .int .i64 r9, .int .u64 r10, .int .u64 r11], .int .i64 (0 : Int)]) H17))))

def F_ref21_Place_k5 (R : Value → Heap → Prop) (H : Heap) (free : Sl) (sizes : Sl) (x2 : Bool) (H4 : Heap) : Prop :=
  iteB x2 (
  okRow H4 (⟨H.size, 0, none⟩ : Addr) 4 ∧ (
  letH (wrs H4 (⟨H.size, 0, none⟩ : Addr) [.int .i64 (0 : Int), .int .i64 (0 : Int), .int .u64 (0 : Int), .int .u64 (0 : Int)]) (fun H5 : Heap =>
  ∃ r : Int, rd H5 (⟨H.size, 0, none⟩ : Addr) = some (.int .i64 r) ∧ ∃ r1 : Int, rd H5 ((⟨H.size, 0, none⟩ : Addr).add 1) = some (.int .i64 r1) ∧ ∃ r2 : Int, rd H5 ((⟨H.size, 0, none⟩ : Addr).add 2) = some (.int .u64 r2) ∧ ∃ r3 : Int, rd H5 ((⟨H.size, 0, none⟩ : Addr).add 3) = some (.int .u64 r3) ∧ (
  R (.tuple #[.slice none 0 0, .agg #[.int .i64 r, .int .i64 r1, .int .u64 r2, .int .u64 r3], .int .i64 (1 : Int)]) H5)))) (
  0 ≤ (sizes.n : Int) ∧ (sizes.n : Int) ≤ (sizes.n : Int) ∧ (sizes.n : Int) * ((8 : Nat) : Int) ≤ 281474976710656 ∧ (
  letH (H4.push (.cells (zeroRow (.int .u64 (0 : Int)) (sizes.n : Int).toNat) t_uint64 (0, 0))) (fun H6 : Heap =>
  CallsH Try.prog n_ref21_merge #[.slice free.p free.n free.c] H6 (fun v2 H7 =>
  ∃ left : Sl, v2 = .slice left.p left.n left.c ∧ (
  ∃ I_ : Sl → Int → Heap → Prop, ∃ M_ : Sl → Int → Heap → Nat, I_ left (44 : Int) H7 ∧ (∀ left1 : Sl, ∀ k : Int, ∀ H8 : Heap, I_ left1 k H8 → F_ref21_Place_r4 R H free sizes H4 I_ M_ left1 k H8))))))

def F_ref21_Place (R : Value → Heap → Prop) (free : Sl) (sizes : Sl) (H : Heap) : Prop :=
  letH (H.push (.cells #[.int .i64 (0 : Int), .int .i64 (0 : Int), .int .u64 (0 : Int), .int .u64 (0 : Int)] t_api_Certificate (0, 0))) (fun H1 : Heap =>
  ∃ J_ : Bool → Heap → Prop, (
  CallsH Try.prog n_ref21_ValidRanges #[.slice free.p free.n free.c] H1 (fun v H2 =>
  ∃ x : Bool, v = .bool x ∧ (
  iteB (!x) (
  J_ true H2) (
  CallsH Try.prog n_ref21_items #[.slice sizes.p sizes.n sizes.c] H2 (fun v1 H3 =>
  ∃ x1 : Bool, v1 = .bool x1 ∧ (
  J_ (!x1) H3)))))) ∧ (∀ x2 : Bool, ∀ H4 : Heap, J_ x2 H4 → F_ref21_Place_k5 R H free sizes x2 H4))

theorem F_ref21_Place_eq (R : Value → Heap → Prop) (free : Sl) (sizes : Sl) (H : Heap) : wpF Try.prog Try.f11 [(8, .slice none 0 0), (9, .int .i64 0), (10, .int .i64 0), (11, .bool false), (12, .int .i64 0), (21, .bool false)] [(2, [21], [0, 1, 5]), (19, [11], [0, 1, 5, 7, 8, 9, 10])] [(6, [8, 9], [0, 1, 5, 7]), (9, [8, 10], [0, 1, 5, 7, 9]), (14, [11, 12], [0, 1, 5, 7, 8, 9, 10])] [17] [.slice free.p free.n free.c, .slice sizes.p sizes.n sizes.c] H R = F_ref21_Place R free sizes H := by kernel_rfl

theorem F_ref21_Place_ok {R : Value → Heap → Prop} (free : Sl) (sizes : Sl) {H : Heap} (h : F_ref21_Place R free sizes H) : CallsH Try.prog n_ref21_Place #[.slice free.p free.n free.c, .slice sizes.p sizes.n sizes.c] H R :=
  wpF_ok Try.func11 (F_ref21_Place_eq R free sizes H) h

/-! ### 12: platformfw/platformfwhelp.Equal[uint64] -/

def F_help_Equal_uint64_r1 (R : Value → Heap → Prop) (a : Sl) (b : Sl) (I_ : Int → Heap → Prop) (M_ : Int → Heap → Nat) (i : Int) (H1 : Heap) : Prop :=
  iteB (decide (i < (a.n : Int))) (
  0 ≤ i ∧ i < (a.n : Int) ∧ (unSome a.p (fun a1 =>
  ∃ x : Int, rd H1 (a1.add (i.toNat * 1)) = some (.int .u64 x) ∧ (
  0 ≤ i ∧ i < (b.n : Int) ∧ (unSome b.p (fun a2 =>
  ∃ x1 : Int, rd H1 (a2.add (i.toNat * 1)) = some (.int .u64 x1) ∧ (
  iteB (x != x1) (
  R (.bool false) H1) (
  letV (IntKind.i64.wrap (i + (1 : Int))) (fun i1 : Int =>
  I_ i1 H1 ∧ M_ i1 H1 < M_ i H1))))))))) (
  R (.bool true) H1)

def F_help_Equal_uint64 (R : Value → Heap → Prop) (a : Sl) (b : Sl) (H : Heap) : Prop :=
  iteB ((a.n : Int) != (b.n : Int)) (
  R (.bool false) H) (
  ∃ I_ : Int → Heap → Prop, ∃ M_ : Int → Heap → Nat, I_ (0 : Int) H ∧ (∀ i : Int, ∀ H1 : Heap, I_ i H1 → F_help_Equal_uint64_r1 R a b I_ M_ i H1))

theorem F_help_Equal_uint64_eq (R : Value → Heap → Prop) (a : Sl) (b : Sl) (H : Heap) : wpF Try.prog Try.f12 [(5, .int .i64 0)] [] [(4, [5], [0, 1])] [17] [.slice a.p a.n a.c, .slice b.p b.n b.c] H R = F_help_Equal_uint64 R a b H := by kernel_rfl

theorem F_help_Equal_uint64_ok {R : Value → Heap → Prop} (a : Sl) (b : Sl) {H : Heap} (h : F_help_Equal_uint64 R a b H) : CallsH Try.prog n_help_Equal_uint64 #[.slice a.p a.n a.c, .slice b.p b.n b.c] H R :=
  wpF_ok Try.func12 (F_help_Equal_uint64_eq R a b H) h

/-! ### 13: platformfw/allocate.Refutes -/

def F_allocate_Refutes (R : Value → Heap → Prop) (free : Sl) (sizes : Sl) (c_0 : Int) (c_1 : Int) (c_2 : Int) (c_3 : Int) (H : Heap) : Prop :=
  letH (H.push (.cells #[.int .i64 c_0, .int .i64 c_1, .int .u64 c_2, .int .u64 c_3] t_api_Certificate (0, 0))) (fun H1 : Heap =>
  CallsH Try.prog n_allocate_placeable #[.slice free.p free.n free.c, .slice sizes.p sizes.n sizes.c] H1 (fun v H2 =>
  ∃ x : Bool, v = .bool x ∧ (
  iteB (!x) (
  R (.bool false) H2) (
  ∃ x1 : Int, rd H2 ((⟨H.size, 0, none⟩ : Addr).add 1) = some (.int .i64 x1) ∧ (
  iteB (decide (x1 < (0 : Int))) (
  R (.bool false) H2) (
  ∃ x2 : Int, rd H2 ((⟨H.size, 0, none⟩ : Addr).add 1) = some (.int .i64 x2) ∧ (
  iteB (decide (x2 > (52 : Int))) (
  R (.bool false) H2) (
  ∃ x3 : Int, rd H2 ((⟨H.size, 0, none⟩ : Addr).add 2) = some (.int .u64 x3) ∧ (
  ∃ x4 : Int, rd H2 ((⟨H.size, 0, none⟩ : Addr).add 1) = some (.int .i64 x4) ∧ (
  CallsH Try.prog n_allocate_demand #[.slice sizes.p sizes.n sizes.c, .int .i64 x4] H2 (fun v1 H3 =>
  ∃ x5 : Int, v1 = .int .u64 x5 ∧ (
  Keeps H2 H3 [(((⟨H.size, 0, none⟩ : Addr).add 2), 1)] ∧ (
  iteB (x3 != x5) (
  R (.bool false) H3) (
  ∃ x6 : Int, rd H3 ((⟨H.size, 0, none⟩ : Addr).add 3) = some (.int .u64 x6) ∧ (
  ∃ x7 : Int, rd H3 ((⟨H.size, 0, none⟩ : Addr).add 1) = some (.int .i64 x7) ∧ (
  CallsH Try.prog n_allocate_Blocks #[.slice free.p free.n free.c, .int .i64 x7] H3 (fun v2 H4 =>
  ∃ x8 : Int, v2 = .int .u64 x8 ∧ (
  Keeps H3 H4 [(((⟨H.size, 0, none⟩ : Addr).add 3), 1)] ∧ (
  iteB (x6 != x8) (
  R (.bool false) H4) (
  ∃ x9 : Int, rd H4 ((⟨H.size, 0, none⟩ : Addr).add 2) = some (.int .u64 x9) ∧ (
  ∃ x10 : Int, rd H4 ((⟨H.size, 0, none⟩ : Addr).add 3) = some (.int .u64 x10) ∧ (
  ∃ x11 : Int, rd H4 ((⟨H.size, 0, none⟩ : Addr).add 1) = some (.int .i64 x11) ∧ (
  0 ≤ x11 ∧ (
  R (.bool (decide (x9 > (IntKind.u64.wrap (x10 * 2 ^ (min x11.toNat IntKind.u64.bits)))))) H4))))))))))))))))))))))))

theorem F_allocate_Refutes_eq (R : Value → Heap → Prop) (free : Sl) (sizes : Sl) (c_0 : Int) (c_1 : Int) (c_2 : Int) (c_3 : Int) (H : Heap) : wpF Try.prog Try.f13 [] [] [] [17] [.slice free.p free.n free.c, .slice sizes.p sizes.n sizes.c, .agg #[.int .i64 c_0, .int .i64 c_1, .int .u64 c_2, .int .u64 c_3]] H R = F_allocate_Refutes R free sizes c_0 c_1 c_2 c_3 H := by kernel_rfl

theorem F_allocate_Refutes_ok {R : Value → Heap → Prop} (free : Sl) (sizes : Sl) (c_0 : Int) (c_1 : Int) (c_2 : Int) (c_3 : Int) {H : Heap} (h : F_allocate_Refutes R free sizes c_0 c_1 c_2 c_3 H) : CallsH Try.prog n_allocate_Refutes #[.slice free.p free.n free.c, .slice sizes.p sizes.n sizes.c, .agg #[.int .i64 c_0, .int .i64 c_1, .int .u64 c_2, .int .u64 c_3]] H R :=
  wpF_ok Try.func13 (F_allocate_Refutes_eq R free sizes c_0 c_1 c_2 c_3 H) h

/-! ### 14: platformfw/platformfwref21.Refutes -/

def F_ref21_Refutes (R : Value → Heap → Prop) (free : Sl) (sizes : Sl) (c_0 : Int) (c_1 : Int) (c_2 : Int) (c_3 : Int) (H : Heap) : Prop :=
  letH (H.push (.cells #[.int .i64 c_0, .int .i64 c_1, .int .u64 c_2, .int .u64 c_3] t_api_Certificate (0, 0))) (fun H1 : Heap =>
  CallsH Try.prog n_ref21_ValidRanges #[.slice free.p free.n free.c] H1 (fun v H2 =>
  ∃ x : Bool, v = .bool x ∧ (
  iteB x (
  CallsH Try.prog n_ref21_items #[.slice sizes.p sizes.n sizes.c] H2 (fun v1 H3 =>
  ∃ x1 : Bool, v1 = .bool x1 ∧ (
  iteB x1 (
  ∃ x2 : Int, rd H3 ((⟨H.size, 0, none⟩ : Addr).add 1) = some (.int .i64 x2) ∧ (
  iteB (decide (x2 ≥ (0 : Int))) (
  ∃ x3 : Int, rd H3 ((⟨H.size, 0, none⟩ : Addr).add 1) = some (.int .i64 x3) ∧ (
  iteB (decide (x3 ≤ (52 : Int))) (
  ∃ x4 : Int, rd H3 ((⟨H.size, 0, none⟩ : Addr).add 2) = some (.int .u64 x4) ∧ (
  ∃ x5 : Int, rd H3 ((⟨H.size, 0, none⟩ : Addr).add 1) = some (.int .i64 x5) ∧ (
  CallsH Try.prog n_ref21_demand #[.slice sizes.p sizes.n sizes.c, .int .i64 x5] H3 (fun v2 H4 =>
  ∃ x6 : Int, v2 = .int .u64 x6 ∧ (
  Keeps H3 H4 [(((⟨H.size, 0, none⟩ : Addr).add 2), 1)] ∧ (
  iteB (x4 == x6) (
  ∃ x7 : Int, rd H4 ((⟨H.size, 0, none⟩ : Addr).add 3) = some (.int .u64 x7) ∧ (
  ∃ x8 : Int, rd H4 ((⟨H.size, 0, none⟩ : Addr).add 1) = some (.int .i64 x8) ∧ (
  CallsH Try.prog n_ref21_Blocks #[.slice free.p free.n free.c, .int .i64 x8] H4 (fun v3 H5 =>
  ∃ x9 : Int, v3 = .int .u64 x9 ∧ (
  Keeps H4 H5 [(((⟨H.size, 0, none⟩ : Addr).add 3), 1)] ∧ (
  iteB (x7 == x9) (
  ∃ x10 : Int, rd H5 ((⟨H.size, 0, none⟩ : Addr).add 2) = some (.int .u64 x10) ∧ (
  ∃ x11 : Int, rd H5 ((⟨H.size, 0, none⟩ : Addr).add 3) = some (.int .u64 x11) ∧ (
  ∃ x12 : Int, rd H5 ((⟨H.size, 0, none⟩ : Addr).add 1) = some (.int .i64 x12) ∧ (
  0 ≤ (IntKind.u64.wrap x12) ∧ (
  R (.bool (decide (x10 > (IntKind.u64.wrap (x11 * 2 ^ (min (IntKind.u64.wrap x12).toNat IntKind.u64.bits)))))) H5))))) (
  R (.bool false) H5))))))) (
  R (.bool false) H4))))))) (
  R (.bool false) H3))) (
  R (.bool false) H3))) (
  R (.bool false) H3)))) (
  R (.bool false) H2))))

theorem F_ref21_Refutes_eq (R : Value → Heap → Prop) (free : Sl) (sizes : Sl) (c_0 : Int) (c_1 : Int) (c_2 : Int) (c_3 : Int) (H : Heap) : wpF Try.prog Try.f14 [] [] [] [17] [.slice free.p free.n free.c, .slice sizes.p sizes.n sizes.c, .agg #[.int .i64 c_0, .int .i64 c_1, .int .u64 c_2, .int .u64 c_3]] H R = F_ref21_Refutes R free sizes c_0 c_1 c_2 c_3 H := by kernel_rfl

theorem F_ref21_Refutes_ok {R : Value → Heap → Prop} (free : Sl) (sizes : Sl) (c_0 : Int) (c_1 : Int) (c_2 : Int) (c_3 : Int) {H : Heap} (h : F_ref21_Refutes R free sizes c_0 c_1 c_2 c_3 H) : CallsH Try.prog n_ref21_Refutes #[.slice free.p free.n free.c, .slice sizes.p sizes.n sizes.c, .agg #[.int .i64 c_0, .int .i64 c_1, .int .u64 c_2, .int .u64 c_3]] H R :=
  wpF_ok Try.func14 (F_ref21_Refutes_eq R free sizes c_0 c_1 c_2 c_3 H) h

/-! ### 15: platformfw/platformfwlaw21.space -/

def F_law21_space_r1 (R : Value → Heap → Prop) (l : Sl) (I_ : Sl → Int → Heap → Prop) (M_ : Sl → Int → Heap → Nat) (out : Sl) (i : Int) (H1 : Heap) : Prop :=
  iteB (decide (i < (l.n : Int))) (
  iteB (decide (i < (8 : Int))) (
  0 ≤ i ∧ i < (l.n : Int) ∧ (unSome l.p (fun a =>
  ∃ x : Int, rd H1 (a.add (i.toNat * 2)) = some (.int .u64 x) ∧ (
  0 ≤ i ∧ i < (l.n : Int) ∧ (unSome l.p (fun a1 =>
  ∃ x1 : Int, rd H1 ((a1.add (i.toNat * 2)).add 1) = some (.int .u64 x1) ∧ (
  letH (H1.push (.cells #[.int .u64 (x.tmod (300 : Int)), .int .u64 (IntKind.u64.wrap ((1 : Int) + (x1.tmod (120 : Int))))] t_api_Range (0, 0))) (fun H2 : Heap =>
  runH Try.prog (Builtin.append_ #[t_sl_api_Range, t_sl_api_Range] t_sl_api_Range #[.slice out.p out.n out.c, .slice (some (⟨H1.size, 0, none⟩ : Addr)) 1 1]) H2 (fun v H3 =>
  ∃ out1 : Sl, v = .slice out1.p out1.n out1.c ∧ (
  letV (IntKind.i64.wrap (i + (1 : Int))) (fun i1 : Int =>
  I_ out1 i1 H3 ∧ M_ out1 i1 H3 < M_ out i H1))))))))))) (
  R (.slice out.p out.n out.c) H1)) (
  R (.slice out.p out.n out.c) H1)

def F_law21_space (R : Value → Heap → Prop) (l : Sl) (H : Heap) : Prop :=
  ∃ I_ : Sl → Int → Heap → Prop, ∃ M_ : Sl → Int → Heap → Nat, I_ (Sl.mk none 0 0) (0 : Int) H ∧ (∀ out : Sl, ∀ i : Int, ∀ H1 : Heap, I_ out i H1 → F_law21_space_r1 R l I_ M_ out i H1)

theorem F_law21_space_eq (R : Value → Heap → Prop) (l : Sl) (H : Heap) : wpF Try.prog Try.f15 [(3, .slice none 0 0), (4, .int .i64 0)] [] [(3, [3, 4], [0])] [17] [.slice l.p l.n l.c] H R = F_law21_space R l H := by kernel_rfl

theorem F_law21_space_ok {R : Value → Heap → Prop} (l : Sl) {H : Heap} (h : F_law21_space R l H) : CallsH Try.prog n_law21_space #[.slice l.p l.n l.c] H R :=
  wpF_ok Try.func15 (F_law21_space_eq R l H) h

/-! ### 16: platformfw/platformfwlaw21.sizes -/

def F_law21_sizes_r1 (R : Value → Heap → Prop) (l : Sl) (I_ : Sl → Int → Heap → Prop) (M_ : Sl → Int → Heap → Nat) (out : Sl) (i : Int) (H1 : Heap) : Prop :=
  iteB (decide (i < (l.n : Int))) (
  iteB (decide (i < (14 : Int))) (
  0 ≤ i ∧ i < (l.n : Int) ∧ (unSome l.p (fun a =>
  ∃ x : Int, rd H1 (a.add (i.toNat * 1)) = some (.int .i64 x) ∧ (
  CallsH Try.prog n_help_Mod #[.int .i64 x, .int .i64 (7 : Int)] H1 (fun v H2 =>
  ∃ x1 : Int, v = .int .i64 x1 ∧ (
  letH (H2.push (.cells #[.int .i64 x1] t_int (0, 0))) (fun H3 : Heap =>
  runH Try.prog (Builtin.append_ #[t_sl_int, t_sl_int] t_sl_int #[.slice out.p out.n out.c, .slice (some (⟨H2.size, 0, none⟩ : Addr)) 1 1]) H3 (fun v1 H4 =>
  ∃ out1 : Sl, v1 = .slice out1.p out1.n out1.c ∧ (
  letV (IntKind.i64.wrap (i + (1 : Int))) (fun i1 : Int =>
  I_ out1 i1 H4 ∧ M_ out1 i1 H4 < M_ out i H1)))))))))) (
  R (.slice out.p out.n out.c) H1)) (
  R (.slice out.p out.n out.c) H1)

def F_law21_sizes (R : Value → Heap → Prop) (l : Sl) (H : Heap) : Prop :=
  ∃ I_ : Sl → Int → Heap → Prop, ∃ M_ : Sl → Int → Heap → Nat, I_ (Sl.mk none 0 0) (0 : Int) H ∧ (∀ out : Sl, ∀ i : Int, ∀ H1 : Heap, I_ out i H1 → F_law21_sizes_r1 R l I_ M_ out i H1)

theorem F_law21_sizes_eq (R : Value → Heap → Prop) (l : Sl) (H : Heap) : wpF Try.prog Try.f16 [(3, .slice none 0 0), (4, .int .i64 0)] [] [(3, [3, 4], [0])] [17] [.slice l.p l.n l.c] H R = F_law21_sizes R l H := by kernel_rfl

theorem F_law21_sizes_ok {R : Value → Heap → Prop} (l : Sl) {H : Heap} (h : F_law21_sizes R l H) : CallsH Try.prog n_law21_sizes #[.slice l.p l.n l.c] H R :=
  wpF_ok Try.func16 (F_law21_sizes_eq R l H) h

/-! ### 17: platformfw/platformfwhelp.Mod -/

def F_help_Mod (R : Value → Heap → Prop) (v : Int) (n : Int) (H : Heap) : Prop :=
  (IntKind.u64.wrap n) ≠ 0 ∧ (
  letV (IntKind.i64.wrap ((IntKind.u64.wrap v).tmod (IntKind.u64.wrap n))) (fun x : Int =>
  R (.int .i64 x) H))

theorem F_help_Mod_eq (R : Value → Heap → Prop) (v : Int) (n : Int) (H : Heap) : wpF Try.prog Try.f17 [] [] [] [17] [.int .i64 v, .int .i64 n] H R = F_help_Mod R v n H := by kernel_rfl

theorem F_help_Mod_ok {R : Value → Heap → Prop} (v : Int) (n : Int) {H : Heap} (h : F_help_Mod R v n H) : CallsH Try.prog n_help_Mod #[.int .i64 v, .int .i64 n] H R :=
  wpF_ok Try.func17 (F_help_Mod_eq R v n H) h

/-! ### 18: platformfw/platformfwlaw21.awake -/

def F_law21_awake (R : Value → Heap → Prop)  (H : Heap) : Prop :=
  letH (H.push (.cells #[.int .u64 (4096 : Int), .int .u64 (16384 : Int)] t_api_Range (0, 0))) (fun H1 : Heap =>
  letH (H1.push (.cells #[.int .i64 (12 : Int), .int .i64 (13 : Int)] t_int (0, 0))) (fun H2 : Heap =>
  CallsH Try.prog n_allocate_Place #[.slice (some (⟨H.size, 0, none⟩ : Addr)) 1 1, .slice (some (⟨H1.size, 0, none⟩ : Addr)) 2 2] H2 (fun v H3 =>
  ∃ x : Sl, ∃ x1 : Int, ∃ x2 : Int, ∃ x3 : Int, ∃ x4 : Int, ∃ x5 : Int, v = .tuple #[.slice x.p x.n x.c, .agg #[.int .i64 x1, .int .i64 x2, .int .u64 x3, .int .u64 x4], .int .i64 x5] ∧ (
  letH (H3.push (.cells #[.int .i64 (0 : Int), .int .i64 (0 : Int), .int .u64 (0 : Int), .int .u64 (0 : Int)] t_api_Certificate (0, 0))) (fun H4 : Heap =>
  okRow H4 (⟨H3.size, 0, none⟩ : Addr) 4 ∧ (
  letH (wrs H4 (⟨H3.size, 0, none⟩ : Addr) [.int .i64 x1, .int .i64 x2, .int .u64 x3, .int .u64 x4]) (fun H5 : Heap =>
  letH (H5.push (.cells #[.int .i64 (13 : Int), .int .i64 (13 : Int)] t_int (0, 0))) (fun H6 : Heap =>
  CallsH Try.prog n_allocate_Place #[.slice (some (⟨H.size, 0, none⟩ : Addr)) 1 1, .slice (some (⟨H5.size, 0, none⟩ : Addr)) 2 2] H6 (fun v1 H7 =>
  ∃ x6 : Sl, ∃ x7 : Int, ∃ x8 : Int, ∃ x9 : Int, ∃ x10 : Int, ∃ x11 : Int, v1 = .tuple #[.slice x6.p x6.n x6.c, .agg #[.int .i64 x7, .int .i64 x8, .int .u64 x9, .int .u64 x10], .int .i64 x11] ∧ (
  letH (H7.push (.cells #[.int .i64 (0 : Int), .int .i64 (0 : Int), .int .u64 (0 : Int), .int .u64 (0 : Int)] t_api_Certificate (0, 0))) (fun H8 : Heap =>
  okRow H8 (⟨H7.size, 0, none⟩ : Addr) 4 ∧ (
  letH (wrs H8 (⟨H7.size, 0, none⟩ : Addr) [.int .i64 x7, .int .i64 x8, .int .u64 x9, .int .u64 x10]) (fun H9 : Heap =>
  iteB (x5 == (0 : Int)) (
  letH (H9.push (.cells #[.int .u64 (4096 : Int), .int .u64 (8192 : Int)] t_uint64 (0, 0))) (fun H10 : Heap =>
  CallsH Try.prog n_help_Equal_uint64 #[.slice x.p x.n x.c, .slice (some (⟨H9.size, 0, none⟩ : Addr)) 2 2] H10 (fun v2 H11 =>
  ∃ x12 : Bool, v2 = .bool x12 ∧ (
  iteB x12 (
  iteB (x11 == (19 : Int)) (
  ∃ x13 : Int, rd H11 (⟨H7.size, 0, none⟩ : Addr) = some (.int .i64 x13) ∧ ∃ x14 : Int, rd H11 ((⟨H7.size, 0, none⟩ : Addr).add 1) = some (.int .i64 x14) ∧ ∃ x15 : Int, rd H11 ((⟨H7.size, 0, none⟩ : Addr).add 2) = some (.int .u64 x15) ∧ ∃ x16 : Int, rd H11 ((⟨H7.size, 0, none⟩ : Addr).add 3) = some (.int .u64 x16) ∧ (
  iteB ((x13 == (0 : Int)) && ((x14 == (13 : Int)) && ((x15 == (16384 : Int)) && ((x16 == (1 : Int)) && true)))) (
  letH (H11.push (.cells #[.int .i64 (13 : Int), .int .i64 (13 : Int)] t_int (0, 0))) (fun H12 : Heap =>
  ∃ x17 : Int, rd H12 (⟨H7.size, 0, none⟩ : Addr) = some (.int .i64 x17) ∧ ∃ x18 : Int, rd H12 ((⟨H7.size, 0, none⟩ : Addr).add 1) = some (.int .i64 x18) ∧ ∃ x19 : Int, rd H12 ((⟨H7.size, 0, none⟩ : Addr).add 2) = some (.int .u64 x19) ∧ ∃ x20 : Int, rd H12 ((⟨H7.size, 0, none⟩ : Addr).add 3) = some (.int .u64 x20) ∧ (
  CallsH Try.prog n_allocate_Refutes #[.slice (some (⟨H.size, 0, none⟩ : Addr)) 1 1, .slice (some (⟨H11.size, 0, none⟩ : Addr)) 2 2, .agg #[.int .i64 x17, .int .i64 x18, .int .u64 x19, .int .u64 x20]] H12 (fun v3 H13 =>
  ∃ x21 : Bool, v3 = .bool x21 ∧ (
  R (.bool x21) H13))))) (
  R (.bool false) H11))) (
  R (.bool false) H11)) (
  R (.bool false) H11))))) (
  R (.bool false) H9))))))))))))))

theorem F_law21_awake_eq (R : Value → Heap → Prop)  (H : Heap) : wpF Try.prog Try.f18 [] [] [] [17] [] H R = F_law21_awake R  H := by kernel_rfl

theorem F_law21_awake_ok {R : Value → Heap → Prop}  {H : Heap} (h : F_law21_awake R  H) : CallsH Try.prog n_law21_awake #[] H R :=
  wpF_ok Try.func18 (F_law21_awake_eq R  H) h

/-! ### 19: platformfw/platformfwlaw21.fits -/

def F_law21_fits_r1 (R : Value → Heap → Prop) (is : Addr) (n : Int) (I_ : Int → Heap → Prop) (M_ : Int → Heap → Nat) (atv : Int) (H1 : Heap) (ok : Bool) (I_3 : Int → Heap → Prop) (M_3 : Int → Heap → Nat) (x7 : Int) (H6 : Heap) : Prop :=
  iteB (decide (x7 < (IntKind.i64.wrap (atv + n)))) (
  0 ≤ x7 ∧ x7 < ((128 : Nat) : Int) ∧ (okRow H6 (is.add (x7.toNat * 1)) 1 ∧ (
  letH (wrs H6 (is.add (x7.toNat * 1)) [.bool true]) (fun H7 : Heap =>
  letV (IntKind.i64.wrap (x7 + (1 : Int))) (fun x8 : Int =>
  I_3 x8 H7 ∧ M_3 x8 H7 < M_3 x7 H6))))) (
  iteB ok (
  R (.bool true) H6) (
  letV (IntKind.i64.wrap (atv + n)) (fun atv2 : Int =>
  I_ atv2 H6 ∧ M_ atv2 H6 < M_ atv H1)))

def F_law21_fits_r2 (R : Value → Heap → Prop) (is : Addr) (items : Sl) (n : Int) (I_ : Int → Heap → Prop) (M_ : Int → Heap → Nat) (atv : Int) (H1 : Heap) (I_2 : Int → Heap → Prop) (M_2 : Int → Heap → Nat) (x5 : Int) (H3 : Heap) : Prop :=
  iteB (decide (x5 < (IntKind.i64.wrap (atv + n)))) (
  0 ≤ x5 ∧ x5 < ((128 : Nat) : Int) ∧ (okRow H3 (is.add (x5.toNat * 1)) 1 ∧ (
  letH (wrs H3 (is.add (x5.toNat * 1)) [.bool false]) (fun H4 : Heap =>
  letV (IntKind.i64.wrap (x5 + (1 : Int))) (fun x6 : Int =>
  I_2 x6 H4 ∧ M_2 x6 H4 < M_2 x5 H3))))) (
  0 ≤ (1 : Int) ∧ (1 : Int) ≤ (items.n : Int) ∧ (
  CallsH Try.prog n_law21_fits #[.pointer (some is), .slice (slP items.p items.c ((1 : Int).toNat) 1) (items.n - (1 : Int).toNat) (items.c - (1 : Int).toNat)] H3 (fun v H5 =>
  ∃ ok : Bool, v = .bool ok ∧ (
  ∃ I_3 : Int → Heap → Prop, ∃ M_3 : Int → Heap → Nat, I_3 atv H5 ∧ (∀ x7 : Int, ∀ H6 : Heap, I_3 x7 H6 → F_law21_fits_r1 R is n I_ M_ atv H1 ok I_3 M_3 x7 H6)))))

def F_law21_fits_r3 (R : Value → Heap → Prop) (is : Addr) (items : Sl) (n : Int) (I_ : Int → Heap → Prop) (M_ : Int → Heap → Nat) (atv : Int) (H1 : Heap) (I_1 : Bool → Int → Heap → Prop) (M_1 : Bool → Int → Heap → Nat) (all : Bool) (x1 : Int) (H2 : Heap) : Prop :=
  iteB (decide (x1 < (IntKind.i64.wrap (atv + n)))) (
  iteB all (
  0 ≤ x1 ∧ x1 < ((128 : Nat) : Int) ∧ (∃ x2 : Bool, rd H2 (is.add (x1.toNat * 1)) = some (.bool x2) ∧ (
  letV (IntKind.i64.wrap (x1 + (1 : Int))) (fun x3 : Int =>
  I_1 x2 x3 H2 ∧ M_1 x2 x3 H2 < M_1 all x1 H2)))) (
  letV (IntKind.i64.wrap (x1 + (1 : Int))) (fun x4 : Int =>
  I_1 false x4 H2 ∧ M_1 false x4 H2 < M_1 all x1 H2))) (
  iteB (!all) (
  letV (IntKind.i64.wrap (atv + n)) (fun atv1 : Int =>
  I_ atv1 H2 ∧ M_ atv1 H2 < M_ atv H1)) (
  ∃ I_2 : Int → Heap → Prop, ∃ M_2 : Int → Heap → Nat, I_2 atv H2 ∧ (∀ x5 : Int, ∀ H3 : Heap, I_2 x5 H3 → F_law21_fits_r2 R is items n I_ M_ atv H1 I_2 M_2 x5 H3)))

def F_law21_fits_r4 (R : Value → Heap → Prop) (is : Addr) (items : Sl) (n : Int) (I_ : Int → Heap → Prop) (M_ : Int → Heap → Nat) (atv : Int) (H1 : Heap) : Prop :=
  iteB (decide ((IntKind.i64.wrap (atv + n)) ≤ (128 : Int))) (
  ∃ I_1 : Bool → Int → Heap → Prop, ∃ M_1 : Bool → Int → Heap → Nat, I_1 true atv H1 ∧ (∀ all : Bool, ∀ x1 : Int, ∀ H2 : Heap, I_1 all x1 H2 → F_law21_fits_r3 R is items n I_ M_ atv H1 I_1 M_1 all x1 H2)) (
  R (.bool false) H1)

def F_law21_fits (R : Value → Heap → Prop) (is : Addr) (items : Sl) (H : Heap) : Prop :=
  iteB ((items.n : Int) == (0 : Int)) (
  R (.bool true) H) (
  0 ≤ (0 : Int) ∧ (0 : Int) < (items.n : Int) ∧ (unSome items.p (fun a =>
  ∃ x : Int, rd H (a.add ((0 : Int).toNat * 1)) = some (.int .i64 x) ∧ (
  0 ≤ (IntKind.u64.wrap x) ∧ (
  letV (IntKind.i64.wrap ((1 : Int) * 2 ^ (min (IntKind.u64.wrap x).toNat IntKind.i64.bits))) (fun n : Int =>
  ∃ I_ : Int → Heap → Prop, ∃ M_ : Int → Heap → Nat, I_ (0 : Int) H ∧ (∀ atv : Int, ∀ H1 : Heap, I_ atv H1 → F_law21_fits_r4 R is items n I_ M_ atv H1)))))))

theorem F_law21_fits_eq (R : Value → Heap → Prop) (is : Addr) (items : Sl) (H : Heap) : wpF Try.prog Try.f19 [(6, .int .i64 0), (7, .bool false), (8, .int .i64 0), (9, .int .i64 0), (11, .int .i64 0)] [] [(5, [6], [0, 1, 5]), (9, [7, 8], [0, 1, 5, 6]), (14, [9], [0, 1, 5, 6]), (19, [11], [0, 1, 5, 6, 10])] [17] [.pointer (some is), .slice items.p items.n items.c] H R = F_law21_fits R is items H := by kernel_rfl

theorem F_law21_fits_ok {R : Value → Heap → Prop} (is : Addr) (items : Sl) {H : Heap} (h : F_law21_fits R is items H) : CallsH Try.prog n_law21_fits #[.pointer (some is), .slice items.p items.n items.c] H R :=
  wpF_ok Try.func19 (F_law21_fits_eq R is items H) h

/-! ### 20: platformfw/allocate.Blocks -/

def F_allocate_Blocks (R : Value → Heap → Prop) (free : Sl) (k : Int) (H : Heap) : Prop :=
  CallsH Try.prog n_allocate_validRanges #[.slice free.p free.n free.c] H (fun v H1 =>
  ∃ x : Bool, v = .bool x ∧ (
  iteB (!x) (
  R (.int .u64 (0 : Int)) H1) (
  iteB (decide (k < (0 : Int))) (
  R (.int .u64 (0 : Int)) H1) (
  iteB (decide (k > (52 : Int))) (
  R (.int .u64 (0 : Int)) H1) (
  CallsH Try.prog n_allocate_merged #[.slice free.p free.n free.c] H1 (fun v1 H2 =>
  ∃ x1 : Sl, v1 = .slice x1.p x1.n x1.c ∧ (
  CallsH Try.prog n_allocate_countBlocks #[.slice x1.p x1.n x1.c, .int .i64 k] H2 (fun v2 H3 =>
  ∃ x2 : Int, v2 = .int .u64 x2 ∧ (
  R (.int .u64 x2) H3)))))))))

theorem F_allocate_Blocks_eq (R : Value → Heap → Prop) (free : Sl) (k : Int) (H : Heap) : wpF Try.prog Try.f20 [] [] [] [17] [.slice free.p free.n free.c, .int .i64 k] H R = F_allocate_Blocks R free k H := by kernel_rfl

theorem F_allocate_Blocks_ok {R : Value → Heap → Prop} (free : Sl) (k : Int) {H : Heap} (h : F_allocate_Blocks R free k H) : CallsH Try.prog n_allocate_Blocks #[.slice free.p free.n free.c, .int .i64 k] H R :=
  wpF_ok Try.func20 (F_allocate_Blocks_eq R free k H) h

/-! ### 21: platformfw/platformfwhelp.Equal[platformfw/api.Range] -/

def F_help_Equal_api_Range_r1 (R : Value → Heap → Prop) (a : Sl) (b : Sl) (I_ : Int → Heap → Prop) (M_ : Int → Heap → Nat) (i : Int) (H1 : Heap) : Prop :=
  iteB (decide (i < (a.n : Int))) (
  0 ≤ i ∧ i < (a.n : Int) ∧ (unSome a.p (fun a1 =>
  ∃ x : Int, rd H1 (a1.add (i.toNat * 2)) = some (.int .u64 x) ∧ ∃ x1 : Int, rd H1 ((a1.add (i.toNat * 2)).add 1) = some (.int .u64 x1) ∧ (
  0 ≤ i ∧ i < (b.n : Int) ∧ (unSome b.p (fun a2 =>
  ∃ x2 : Int, rd H1 (a2.add (i.toNat * 2)) = some (.int .u64 x2) ∧ ∃ x3 : Int, rd H1 ((a2.add (i.toNat * 2)).add 1) = some (.int .u64 x3) ∧ (
  iteB (!((x == x2) && ((x1 == x3) && true))) (
  R (.bool false) H1) (
  letV (IntKind.i64.wrap (i + (1 : Int))) (fun i1 : Int =>
  I_ i1 H1 ∧ M_ i1 H1 < M_ i H1))))))))) (
  R (.bool true) H1)

def F_help_Equal_api_Range (R : Value → Heap → Prop) (a : Sl) (b : Sl) (H : Heap) : Prop :=
  iteB ((a.n : Int) != (b.n : Int)) (
  R (.bool false) H) (
  ∃ I_ : Int → Heap → Prop, ∃ M_ : Int → Heap → Nat, I_ (0 : Int) H ∧ (∀ i : Int, ∀ H1 : Heap, I_ i H1 → F_help_Equal_api_Range_r1 R a b I_ M_ i H1))

theorem F_help_Equal_api_Range_eq (R : Value → Heap → Prop) (a : Sl) (b : Sl) (H : Heap) : wpF Try.prog Try.f21 [(5, .int .i64 0)] [] [(4, [5], [0, 1])] [17] [.slice a.p a.n a.c, .slice b.p b.n b.c] H R = F_help_Equal_api_Range R a b H := by kernel_rfl

theorem F_help_Equal_api_Range_ok {R : Value → Heap → Prop} (a : Sl) (b : Sl) {H : Heap} (h : F_help_Equal_api_Range R a b H) : CallsH Try.prog n_help_Equal_api_Range #[.slice a.p a.n a.c, .slice b.p b.n b.c] H R :=
  wpF_ok Try.func21 (F_help_Equal_api_Range_eq R a b H) h

/-! ### 22: platformfw/allocate.Free -/

def F_allocate_Free_k1 (endv : Int) (I_1 : Sl → Int → Int → Heap → Prop) (M_1 : Sl → Int → Int → Heap → Nat) (result1 : Sl) (base1 : Int) (x8 : Int) (H8 : Heap) (holeEnd : Int) (result3 : Sl) (H13 : Heap) : Prop :=
  letV (if holeEnd < endv then holeEnd else endv) (fun base2 : Int =>
  I_1 result3 base2 (IntKind.i64.wrap (x8 + (1 : Int))) H13 ∧ M_1 result3 base2 (IntKind.i64.wrap (x8 + (1 : Int))) H13 < M_1 result1 base1 x8 H8)

def F_allocate_Free_r2 (holes : Sl) (I_ : Sl → Int → Heap → Prop) (M_ : Sl → Int → Heap → Nat) (result : Sl) (x3 : Int) (H5 : Heap) (endv : Int) (I_1 : Sl → Int → Int → Heap → Prop) (M_1 : Sl → Int → Int → Heap → Nat) (result1 : Sl) (base1 : Int) (x8 : Int) (H8 : Heap) : Prop :=
  iteB (decide (x8 < (holes.n : Int))) (
  0 ≤ x8 ∧ x8 < (holes.n : Int) ∧ (unSome holes.p (fun a1 =>
  ∃ x9 : Int, rd H8 (a1.add (x8.toNat * 2)) = some (.int .u64 x9) ∧ ∃ x10 : Int, rd H8 ((a1.add (x8.toNat * 2)).add 1) = some (.int .u64 x10) ∧ (
  letH (H8.push (.cells #[.int .u64 (0 : Int), .int .u64 (0 : Int)] t_api_Range (0, 0))) (fun H9 : Heap =>
  okRow H9 (⟨H8.size, 0, none⟩ : Addr) 2 ∧ (
  letH (wrs H9 (⟨H8.size, 0, none⟩ : Addr) [.int .u64 x9, .int .u64 x10]) (fun H10 : Heap =>
  ∃ x11 : Int, rd H10 (⟨H8.size, 0, none⟩ : Addr) = some (.int .u64 x11) ∧ (
  ∃ x12 : Int, rd H10 ((⟨H8.size, 0, none⟩ : Addr).add 1) = some (.int .u64 x12) ∧ (
  letV (IntKind.u64.wrap (x11 + x12)) (fun holeEnd : Int =>
  iteB (decide (holeEnd ≤ base1)) (
  I_1 result1 base1 (IntKind.i64.wrap (x8 + (1 : Int))) H10 ∧ M_1 result1 base1 (IntKind.i64.wrap (x8 + (1 : Int))) H10 < M_1 result1 base1 x8 H8) (
  ∃ x13 : Int, rd H10 (⟨H8.size, 0, none⟩ : Addr) = some (.int .u64 x13) ∧ (
  iteB (decide (x13 ≥ endv)) (
  I_1 result1 base1 (IntKind.i64.wrap (x8 + (1 : Int))) H10 ∧ M_1 result1 base1 (IntKind.i64.wrap (x8 + (1 : Int))) H10 < M_1 result1 base1 x8 H8) (
  ∃ J_ : Sl → Heap → Prop, (
  ∃ x14 : Int, rd H10 (⟨H8.size, 0, none⟩ : Addr) = some (.int .u64 x14) ∧ (
  iteB (decide (x14 > base1)) (
  ∃ x15 : Int, rd H10 (⟨H8.size, 0, none⟩ : Addr) = some (.int .u64 x15) ∧ (
  letH (H10.push (.cells #[.int .u64 base1, .int .u64 (IntKind.u64.wrap (x15 - base1))] t_api_Range (0, 0))) (fun H11 : Heap =>
  runH Try.prog (Builtin.append_ #[t_sl_api_Range, t_sl_api_Range] t_sl_api_Range #[.slice result1.p result1.n result1.c, .slice (some (⟨H10.size, 0, none⟩ : Addr)) 1 1]) H11 (fun v4 H12 =>
  ∃ result2 : Sl, v4 = .slice result2.p result2.n result2.c ∧ (
  J_ result2 H12))))) (
  J_ result1 H10))) ∧ (∀ result3 : Sl, ∀ H13 : Heap, J_ result3 H13 → F_allocate_Free_k1 endv I_1 M_1 result1 base1 x8 H8 holeEnd result3 H13)))))))))))))) (
  iteB (decide (base1 < endv)) (
  letH (H8.push (.cells #[.int .u64 base1, .int .u64 (IntKind.u64.wrap (endv - base1))] t_api_Range (0, 0))) (fun H14 : Heap =>
  runH Try.prog (Builtin.append_ #[t_sl_api_Range, t_sl_api_Range] t_sl_api_Range #[.slice result1.p result1.n result1.c, .slice (some (⟨H8.size, 0, none⟩ : Addr)) 1 1]) H14 (fun v5 H15 =>
  ∃ result4 : Sl, v5 = .slice result4.p result4.n result4.c ∧ (
  I_ result4 (IntKind.i64.wrap (x3 + (1 : Int))) H15 ∧ M_ result4 (IntKind.i64.wrap (x3 + (1 : Int))) H15 < M_ result x3 H5)))) (
  I_ result1 (IntKind.i64.wrap (x3 + (1 : Int))) H8 ∧ M_ result1 (IntKind.i64.wrap (x3 + (1 : Int))) H8 < M_ result x3 H5))

def F_allocate_Free_r3 (R : Value → Heap → Prop) (holes : Sl) (x2 : Sl) (I_ : Sl → Int → Heap → Prop) (M_ : Sl → Int → Heap → Nat) (result : Sl) (x3 : Int) (H5 : Heap) : Prop :=
  iteB (decide (x3 < (x2.n : Int))) (
  0 ≤ x3 ∧ x3 < (x2.n : Int) ∧ (unSome x2.p (fun a =>
  ∃ x4 : Int, rd H5 (a.add (x3.toNat * 2)) = some (.int .u64 x4) ∧ ∃ x5 : Int, rd H5 ((a.add (x3.toNat * 2)).add 1) = some (.int .u64 x5) ∧ (
  letH (H5.push (.cells #[.int .u64 (0 : Int), .int .u64 (0 : Int)] t_api_Range (0, 0))) (fun H6 : Heap =>
  okRow H6 (⟨H5.size, 0, none⟩ : Addr) 2 ∧ (
  letH (wrs H6 (⟨H5.size, 0, none⟩ : Addr) [.int .u64 x4, .int .u64 x5]) (fun H7 : Heap =>
  ∃ base : Int, rd H7 (⟨H5.size, 0, none⟩ : Addr) = some (.int .u64 base) ∧ (
  ∃ x6 : Int, rd H7 (⟨H5.size, 0, none⟩ : Addr) = some (.int .u64 x6) ∧ (
  ∃ x7 : Int, rd H7 ((⟨H5.size, 0, none⟩ : Addr).add 1) = some (.int .u64 x7) ∧ (
  letV (IntKind.u64.wrap (x6 + x7)) (fun endv : Int =>
  ∃ I_1 : Sl → Int → Int → Heap → Prop, ∃ M_1 : Sl → Int → Int → Heap → Nat, I_1 result base (0 : Int) H7 ∧ (∀ result1 : Sl, ∀ base1 : Int, ∀ x8 : Int, ∀ H8 : Heap, I_1 result1 base1 x8 H8 → F_allocate_Free_r2 holes I_ M_ result x3 H5 endv I_1 M_1 result1 base1 x8 H8)))))))))))) (
  R (.slice result.p result.n result.c) H5)

def F_allocate_Free (R : Value → Heap → Prop) (l : Sl) (fixed : Sl) (H : Heap) : Prop :=
  CallsH Try.prog n_allocate_validRanges #[.slice l.p l.n l.c] H (fun v H1 =>
  ∃ x : Bool, v = .bool x ∧ (
  iteB (!x) (
  R (.slice none 0 0) H1) (
  CallsH Try.prog n_allocate_validRanges #[.slice fixed.p fixed.n fixed.c] H1 (fun v1 H2 =>
  ∃ x1 : Bool, v1 = .bool x1 ∧ (
  iteB (!x1) (
  R (.slice none 0 0) H2) (
  CallsH Try.prog n_allocate_merged #[.slice fixed.p fixed.n fixed.c] H2 (fun v2 H3 =>
  ∃ holes : Sl, v2 = .slice holes.p holes.n holes.c ∧ (
  CallsH Try.prog n_allocate_merged #[.slice l.p l.n l.c] H3 (fun v3 H4 =>
  ∃ x2 : Sl, v3 = .slice x2.p x2.n x2.c ∧ (
  ∃ I_ : Sl → Int → Heap → Prop, ∃ M_ : Sl → Int → Heap → Nat, I_ (Sl.mk none 0 0) (0 : Int) H4 ∧ (∀ result : Sl, ∀ x3 : Int, ∀ H5 : Heap, I_ result x3 H5 → F_allocate_Free_r3 R holes x2 I_ M_ result x3 H5)))))))))))

theorem F_allocate_Free_eq (R : Value → Heap → Prop) (l : Sl) (fixed : Sl) (H : Heap) : wpF Try.prog Try.f22 [(5, .slice none 0 0), (9, .int .u64 0), (27, .int .i64 0), (40, .int .i64 0)] [(16, [5], [6, 10, 13, 25, 26, 27, 38, 39, 40])] [(6, [5, 27], [6, 25, 26]), (10, [5, 9, 40], [6, 10, 25, 26, 27, 38, 39])] [17] [.slice l.p l.n l.c, .slice fixed.p fixed.n fixed.c] H R = F_allocate_Free R l fixed H := by kernel_rfl

theorem F_allocate_Free_ok {R : Value → Heap → Prop} (l : Sl) (fixed : Sl) {H : Heap} (h : F_allocate_Free R l fixed H) : CallsH Try.prog n_allocate_Free #[.slice l.p l.n l.c, .slice fixed.p fixed.n fixed.c] H R :=
  wpF_ok Try.func22 (F_allocate_Free_eq R l fixed H) h

/-! ### 23: platformfw/platformfwref21.Free -/

def F_ref21_Free_r1 (R : Value → Heap → Prop) (fixed : Sl) (I_ : Sl → Int → Heap → Prop) (M_ : Sl → Int → Heap → Nat) (free1 : Sl) (i : Int) (H4 : Heap) : Prop :=
  iteB (decide (i < (fixed.n : Int))) (
  0 ≤ i ∧ i < (fixed.n : Int) ∧ (unSome fixed.p (fun a =>
  ∃ x2 : Int, rd H4 (a.add (i.toNat * 2)) = some (.int .u64 x2) ∧ ∃ x3 : Int, rd H4 ((a.add (i.toNat * 2)).add 1) = some (.int .u64 x3) ∧ (
  CallsH Try.prog n_ref21_remove #[.slice free1.p free1.n free1.c, .agg #[.int .u64 x2, .int .u64 x3]] H4 (fun v3 H5 =>
  ∃ free2 : Sl, v3 = .slice free2.p free2.n free2.c ∧ (
  letV (IntKind.i64.wrap (i + (1 : Int))) (fun i1 : Int =>
  I_ free2 i1 H5 ∧ M_ free2 i1 H5 < M_ free1 i H4))))))) (
  R (.slice free1.p free1.n free1.c) H4)

def F_ref21_Free (R : Value → Heap → Prop) (l : Sl) (fixed : Sl) (H : Heap) : Prop :=
  CallsH Try.prog n_ref21_ValidRanges #[.slice l.p l.n l.c] H (fun v H1 =>
  ∃ x : Bool, v = .bool x ∧ (
  iteB (!x) (
  R (.slice none 0 0) H1) (
  CallsH Try.prog n_ref21_ValidRanges #[.slice fixed.p fixed.n fixed.c] H1 (fun v1 H2 =>
  ∃ x1 : Bool, v1 = .bool x1 ∧ (
  iteB (!x1) (
  R (.slice none 0 0) H2) (
  CallsH Try.prog n_ref21_merge #[.slice l.p l.n l.c] H2 (fun v2 H3 =>
  ∃ free : Sl, v2 = .slice free.p free.n free.c ∧ (
  ∃ I_ : Sl → Int → Heap → Prop, ∃ M_ : Sl → Int → Heap → Nat, I_ free (0 : Int) H3 ∧ (∀ free1 : Sl, ∀ i : Int, ∀ H4 : Heap, I_ free1 i H4 → F_ref21_Free_r1 R fixed I_ M_ free1 i H4)))))))))

theorem F_ref21_Free_eq (R : Value → Heap → Prop) (l : Sl) (fixed : Sl) (H : Heap) : wpF Try.prog Try.f23 [(5, .slice none 0 0), (6, .int .i64 0)] [] [(5, [5, 6], [1])] [17] [.slice l.p l.n l.c, .slice fixed.p fixed.n fixed.c] H R = F_ref21_Free R l fixed H := by kernel_rfl

theorem F_ref21_Free_ok {R : Value → Heap → Prop} (l : Sl) (fixed : Sl) {H : Heap} (h : F_ref21_Free R l fixed H) : CallsH Try.prog n_ref21_Free #[.slice l.p l.n l.c, .slice fixed.p fixed.n fixed.c] H R :=
  wpF_ok Try.func23 (F_ref21_Free_eq R l fixed H) h

/-! ### 24: platformfw/platformfwref21.Blocks -/

def F_ref21_Blocks_r1 (R : Value → Heap → Prop) (k : Int) (l : Sl) (I_ : Int → Int → Heap → Prop) (M_ : Int → Int → Heap → Nat) (n : Int) (i : Int) (H3 : Heap) : Prop :=
  iteB (decide (i < (l.n : Int))) (
  0 ≤ i ∧ i < (l.n : Int) ∧ (unSome l.p (fun a =>
  ∃ x1 : Int, rd H3 (a.add (i.toNat * 2)) = some (.int .u64 x1) ∧ (
  0 ≤ i ∧ i < (l.n : Int) ∧ (unSome l.p (fun a1 =>
  ∃ x2 : Int, rd H3 (a1.add (i.toNat * 2)) = some (.int .u64 x2) ∧ (
  0 ≤ i ∧ i < (l.n : Int) ∧ (unSome l.p (fun a2 =>
  ∃ x3 : Int, rd H3 ((a2.add (i.toNat * 2)).add 1) = some (.int .u64 x3) ∧ (
  CallsH Try.prog n_ref21_up #[.int .u64 x1, .int .i64 k] H3 (fun v2 H4 =>
  ∃ atv : Int, v2 = .int .u64 atv ∧ (
  Keeps H3 H4 [((a1.add (i.toNat * 2)), 1), (((a2.add (i.toNat * 2)).add 1), 1)] ∧ (
  letV (IntKind.u64.wrap (x2 + x3)) (fun endv : Int =>
  iteB (decide (atv < endv)) (
  0 ≤ (IntKind.u64.wrap k) ∧ (
  letV (IntKind.u64.wrap (n + ((IntKind.u64.wrap (endv - atv)).fdiv (2 ^ (min (IntKind.u64.wrap k).toNat IntKind.u64.bits))))) (fun n1 : Int =>
  letV (IntKind.i64.wrap (i + (1 : Int))) (fun i1 : Int =>
  I_ n1 i1 H4 ∧ M_ n1 i1 H4 < M_ n i H3)))) (
  letV (IntKind.i64.wrap (i + (1 : Int))) (fun i2 : Int =>
  I_ n i2 H4 ∧ M_ n i2 H4 < M_ n i H3)))))))))))))))) (
  R (.int .u64 n) H3)

def F_ref21_Blocks (R : Value → Heap → Prop) (free : Sl) (k : Int) (H : Heap) : Prop :=
  iteB (decide (k < (0 : Int))) (
  R (.int .u64 (0 : Int)) H) (
  iteB (decide (k > (52 : Int))) (
  R (.int .u64 (0 : Int)) H) (
  CallsH Try.prog n_ref21_ValidRanges #[.slice free.p free.n free.c] H (fun v H1 =>
  ∃ x : Bool, v = .bool x ∧ (
  iteB (!x) (
  R (.int .u64 (0 : Int)) H1) (
  CallsH Try.prog n_ref21_merge #[.slice free.p free.n free.c] H1 (fun v1 H2 =>
  ∃ l : Sl, v1 = .slice l.p l.n l.c ∧ (
  ∃ I_ : Int → Int → Heap → Prop, ∃ M_ : Int → Int → Heap → Nat, I_ (0 : Int) (0 : Int) H2 ∧ (∀ n : Int, ∀ i : Int, ∀ H3 : Heap, I_ n i H3 → F_ref21_Blocks_r1 R k l I_ M_ n i H3))))))))

theorem F_ref21_Blocks_eq (R : Value → Heap → Prop) (free : Sl) (k : Int) (H : Heap) : wpF Try.prog Try.f24 [(5, .int .u64 0), (7, .int .i64 0)] [] [(6, [5, 7], [1, 6])] [17] [.slice free.p free.n free.c, .int .i64 k] H R = F_ref21_Blocks R free k H := by kernel_rfl

theorem F_ref21_Blocks_ok {R : Value → Heap → Prop} (free : Sl) (k : Int) {H : Heap} (h : F_ref21_Blocks R free k H) : CallsH Try.prog n_ref21_Blocks #[.slice free.p free.n free.c, .int .i64 k] H R :=
  wpF_ok Try.func24 (F_ref21_Blocks_eq R free k H) h

/-! ### 25: platformfw/platformfwgen.Topology -/

def F_gen_Topology_k1 (out : Sl) (bridges : Sl) (J_1 : Sl → Int → Heap → Prop) (H28 : Heap) : Prop :=
  letH (H28.push (.cells #[.int .i64 (out.n : Int)] t_int (0, 0))) (fun H29 : Heap =>
  runH Try.prog (Builtin.append_ #[t_sl_int, t_sl_int] t_sl_int #[.slice bridges.p bridges.n bridges.c, .slice (some (⟨H28.size, 0, none⟩ : Addr)) 1 1]) H29 (fun v13 H30 =>
  ∃ bridges1 : Sl, v13 = .slice bridges1.p bridges1.n bridges1.c ∧ (
  J_1 bridges1 (2 : Int) H30)))

def F_gen_Topology_k2 (out : Sl) (bridges : Sl) (H3 : Heap) (g : Addr) (J_1 : Sl → Int → Heap → Prop) (H25 : Heap) : Prop :=
  ∃ J_3 : Heap → Prop, (
  ∃ x46 : Bool, rd H25 (g.add 6) = some (.bool x46) ∧ (
  iteB x46 (
  ∃ x47 : Int, rd H25 ((⟨H3.size, 0, none⟩ : Addr).add 7) = some (.int .i64 x47) ∧ (
  CallsH Try.prog n_help_Mod #[.int .i64 x47, .int .i64 (4 : Int)] H25 (fun v12 H26 =>
  ∃ x48 : Int, v12 = .int .i64 x48 ∧ (
  okRow H26 (g.add 7) 1 ∧ (
  letH (wrs H26 (g.add 7) [.int .i64 x48]) (fun H27 : Heap =>
  J_3 H27)))))) (
  J_3 H25))) ∧ (∀ H28 : Heap, J_3 H28 → F_gen_Topology_k1 out bridges J_1 H28)

def F_gen_Topology_k3 (I_ : Sl → Sl → Int → Heap → Prop) (M_ : Sl → Sl → Int → Heap → Nat) (out : Sl) (bridges : Sl) (i : Int) (H3 : Heap) (g : Addr) (bridges2 : Sl) (most2 : Int) (H31 : Heap) : Prop :=
  ∃ x49 : Sl, rd H31 ((⟨H3.size, 0, none⟩ : Addr).add 10) = some (.slice x49.p x49.n x49.c) ∧ (
  CallsH Try.prog n_gen_bars #[.slice x49.p x49.n x49.c, .int .i64 most2] H31 (fun v14 H32 =>
  ∃ x50 : Sl, v14 = .slice x50.p x50.n x50.c ∧ (
  okRow H32 (g.add 10) 1 ∧ (
  letH (wrs H32 (g.add 10) [.slice x50.p x50.n x50.c]) (fun H33 : Heap =>
  ∃ x51 : Int, rd H33 g = some (.int .i64 x51) ∧ ∃ x52 : Int, rd H33 (g.add 1) = some (.int .i64 x52) ∧ ∃ x53 : Int, rd H33 (g.add 2) = some (.int .i64 x53) ∧ ∃ x54 : Int, rd H33 (g.add 3) = some (.int .i64 x54) ∧ ∃ x55 : Bool, rd H33 (g.add 4) = some (.bool x55) ∧ ∃ x56 : Bool, rd H33 (g.add 5) = some (.bool x56) ∧ ∃ x57 : Bool, rd H33 (g.add 6) = some (.bool x57) ∧ ∃ x58 : Int, rd H33 (g.add 7) = some (.int .i64 x58) ∧ ∃ x59 : Int, rd H33 (g.add 8) = some (.int .i64 x59) ∧ ∃ x60 : Int, rd H33 (g.add 9) = some (.int .i64 x60) ∧ ∃ x61 : Sl, rd H33 (g.add 10) = some (.slice x61.p x61.n x61.c) ∧ (
  letH (H33.push (.cells #[.int .i64 x51, .int .i64 x52, .int .i64 x53, .int .i64 x54, .bool x55, .bool x56, .bool x57, .int .i64 x58, .int .i64 x59, .int .i64 x60, .slice x61.p x61.n x61.c] t_api_Function (0, 0))) (fun H34 : Heap =>
  runH Try.prog (Builtin.append_ #[t_sl_api_Function, t_sl_api_Function] t_sl_api_Function #[.slice out.p out.n out.c, .slice (some (⟨H33.size, 0, none⟩ : Addr)) 1 1]) H34 (fun v15 H35 =>
  ∃ out1 : Sl, v15 = .slice out1.p out1.n out1.c ∧ (
  letV (IntKind.i64.wrap (i + (1 : Int))) (fun i2 : Int =>
  I_ out1 bridges2 i2 H35 ∧ M_ out1 bridges2 i2 H35 < M_ out bridges i H3))))))))))

def F_gen_Topology_k4 (H : Heap) (I_ : Sl → Sl → Int → Heap → Prop) (M_ : Sl → Sl → Int → Heap → Nat) (out : Sl) (bridges : Sl) (i : Int) (H3 : Heap) (g : Addr) (H18 : Heap) : Prop :=
  ∃ x35 : Int, rd H18 g = some (.int .i64 x35) ∧ (
  ∃ x36 : Int, rd H18 (g.add 1) = some (.int .i64 x36) ∧ (
  runH Try.prog (Instr.lookup t_map_2_int_bool (.map (some H.size)) (.agg #[.int .i64 x35, .int .i64 x36]) false) H18 (fun v9 H19 =>
  ∃ x37 : Bool, v9 = .bool x37 ∧ (
  iteB x37 (
  letV (IntKind.i64.wrap (i + (1 : Int))) (fun i1 : Int =>
  I_ out bridges i1 H19 ∧ M_ out bridges i1 H19 < M_ out bridges i H3)) (
  ∃ x38 : Int, rd H19 g = some (.int .i64 x38) ∧ (
  ∃ x39 : Int, rd H19 (g.add 1) = some (.int .i64 x39) ∧ (
  runH Try.prog (Instr.mapUpdate t_map_2_int_bool (.map (some H.size)) (.agg #[.int .i64 x38, .int .i64 x39]) (.bool true)) H19 (fun _ H20 =>
  ∃ J_1 : Sl → Int → Heap → Prop, (
  ∃ x40 : Bool, rd H20 (g.add 4) = some (.bool x40) ∧ (
  iteB x40 (
  ∃ J_2 : Heap → Prop, (
  ∃ x41 : Int, rd H20 ((⟨H3.size, 0, none⟩ : Addr).add 3) = some (.int .i64 x41) ∧ (
  CallsP Try.prog n_help_Mod #[.int .i64 x41, .int .i64 (3 : Int)] (fun v10 =>
  ∃ x42 : Int, v10 = .int .i64 x42 ∧ (
  ∃ x43 : Bool, rd H20 ((⟨H3.size, 0, none⟩ : Addr).add 6) = some (.bool x43) ∧ (
  iteB x43 (
  okRow H20 (g.add 5) 1 ∧ (
  letH (wrs H20 (g.add 5) [.bool (decide (x42 > (0 : Int)))]) (fun H21 : Heap =>
  okRow H21 (g.add 6) 1 ∧ (
  letH (wrs H21 (g.add 6) [.bool true]) (fun H22 : Heap =>
  J_2 H22))))) (
  ∃ x44 : Int, rd H20 ((⟨H3.size, 0, none⟩ : Addr).add 3) = some (.int .i64 x44) ∧ (
  CallsP Try.prog n_help_Mod #[.int .i64 x44, .int .i64 (4 : Int)] (fun v11 =>
  ∃ x45 : Int, v11 = .int .i64 x45 ∧ (
  okRow H20 (g.add 5) 1 ∧ (
  letH (wrs H20 (g.add 5) [.bool (decide (x42 > (0 : Int)))]) (fun H23 : Heap =>
  okRow H23 (g.add 6) 1 ∧ (
  letH (wrs H23 (g.add 6) [.bool (x45 == (0 : Int))]) (fun H24 : Heap =>
  J_2 H24))))))))))))) ∧ (∀ H25 : Heap, J_2 H25 → F_gen_Topology_k2 out bridges H3 g J_1 H25)) (
  J_1 bridges (6 : Int) H20))) ∧ (∀ bridges2 : Sl, ∀ most2 : Int, ∀ H31 : Heap, J_1 bridges2 most2 H31 → F_gen_Topology_k3 I_ M_ out bridges i H3 g bridges2 most2 H31)))))))))

def F_gen_Topology_r5 (R : Value → Heap → Prop) (H : Heap) (l : Sl) (most : Int) (I_ : Sl → Sl → Int → Heap → Prop) (M_ : Sl → Sl → Int → Heap → Nat) (out : Sl) (bridges : Sl) (i : Int) (H3 : Heap) : Prop :=
  iteB (decide (i < (l.n : Int))) (
  iteB (decide ((out.n : Int) < most)) (
  0 ≤ i ∧ i < (l.n : Int) ∧ (unSome l.p (fun a =>
  ∃ x : Int, rd H3 (a.add (i.toNat * 11)) = some (.int .i64 x) ∧ ∃ x1 : Int, rd H3 ((a.add (i.toNat * 11)).add 1) = some (.int .i64 x1) ∧ ∃ x2 : Int, rd H3 ((a.add (i.toNat * 11)).add 2) = some (.int .i64 x2) ∧ ∃ x3 : Int, rd H3 ((a.add (i.toNat * 11)).add 3) = some (.int .i64 x3) ∧ ∃ x4 : Bool, rd H3 ((a.add (i.toNat * 11)).add 4) = some (.bool x4) ∧ ∃ x5 : Bool, rd H3 ((a.add (i.toNat * 11)).add 5) = some (.bool x5) ∧ ∃ x6 : Bool, rd H3 ((a.add (i.toNat * 11)).add 6) = some (.bool x6) ∧ ∃ x7 : Int, rd H3 ((a.add (i.toNat * 11)).add 7) = some (.int .i64 x7) ∧ ∃ x8 : Int, rd H3 ((a.add (i.toNat * 11)).add 8) = some (.int .i64 x8) ∧ ∃ x9 : Int, rd H3 ((a.add (i.toNat * 11)).add 9) = some (.int .i64 x9) ∧ ∃ x10 : Sl, rd H3 ((a.add (i.toNat * 11)).add 10) = some (.slice x10.p x10.n x10.c) ∧ (
  letH (H3.push (.cells #[.int .i64 (0 : Int), .int .i64 (0 : Int), .int .i64 (0 : Int), .int .i64 (0 : Int), .bool false, .bool false, .bool false, .int .i64 (0 : Int), .int .i64 (0 : Int), .int .i64 (0 : Int), .slice none 0 0] t_api_Function (0, 0))) (fun H4 : Heap =>
  okRow H4 (⟨H3.size, 0, none⟩ : Addr) 11 ∧ (
  letH (wrs H4 (⟨H3.size, 0, none⟩ : Addr) [.int .i64 x, .int .i64 x1, .int .i64 x2, .int .i64 x3, .bool x4, .bool x5, .bool x6, .int .i64 x7, .int .i64 x8, .int .i64 x9, .slice x10.p x10.n x10.c]) (fun H5 : Heap =>
  ∃ J_ : Addr → Heap → Prop, (
  ∃ x11 : Int, rd H5 (⟨H3.size, 0, none⟩ : Addr) = some (.int .i64 x11) ∧ (
  CallsP Try.prog n_help_Mod #[.int .i64 x11, .int .i64 (bridges.n : Int)] (fun v =>
  ∃ x12 : Int, v = .int .i64 x12 ∧ (
  0 ≤ x12 ∧ x12 < (bridges.n : Int) ∧ (unSome bridges.p (fun a1 =>
  ∃ x13 : Int, rd H5 (a1.add (x12.toNat * 1)) = some (.int .i64 x13) ∧ (
  ∃ x14 : Int, rd H5 ((⟨H3.size, 0, none⟩ : Addr).add 1) = some (.int .i64 x14) ∧ (
  CallsP Try.prog n_help_Mod #[.int .i64 x14, .int .i64 (8 : Int)] (fun v1 =>
  ∃ x15 : Int, v1 = .int .i64 x15 ∧ (
  ∃ x16 : Int, rd H5 ((⟨H3.size, 0, none⟩ : Addr).add 2) = some (.int .i64 x16) ∧ (
  CallsP Try.prog n_help_Mod #[.int .i64 x16, .int .i64 (9 : Int)] (fun v2 =>
  ∃ x17 : Int, v2 = .int .i64 x17 ∧ (
  ∃ x18 : Int, rd H5 ((⟨H3.size, 0, none⟩ : Addr).add 3) = some (.int .i64 x18) ∧ (
  CallsP Try.prog n_help_Mod #[.int .i64 x18, .int .i64 (9 : Int)] (fun v3 =>
  ∃ x19 : Int, v3 = .int .i64 x19 ∧ (
  ∃ x20 : Bool, rd H5 ((⟨H3.size, 0, none⟩ : Addr).add 4) = some (.bool x20) ∧ (
  iteB x20 (
  ∃ x21 : Int, rd H5 ((⟨H3.size, 0, none⟩ : Addr).add 8) = some (.int .i64 x21) ∧ (
  CallsP Try.prog n_help_Mod #[.int .i64 x21, .int .i64 (5 : Int)] (fun v4 =>
  ∃ x22 : Int, v4 = .int .i64 x22 ∧ (
  ∃ x23 : Int, rd H5 ((⟨H3.size, 0, none⟩ : Addr).add 9) = some (.int .i64 x23) ∧ (
  CallsP Try.prog n_help_Mod #[.int .i64 x23, .int .i64 (6 : Int)] (fun v5 =>
  ∃ x24 : Int, v5 = .int .i64 x24 ∧ (
  (
  letH (H5.push (.cells #[.int .i64 (0 : Int), .int .i64 (1 : Int), .int .i64 (2 : Int), .int .i64 (4 : Int), .int .i64 (16 : Int), .int .i64 (32 : Int)] t_int (0, 0))) (fun H6 : Heap =>
  Keeps H5 H6 [((⟨H3.size, 0, none⟩ : Addr), 1), ((a1.add (x12.toNat * 1)), 1), (((⟨H3.size, 0, none⟩ : Addr).add 1), 1), (((⟨H3.size, 0, none⟩ : Addr).add 2), 1), (((⟨H3.size, 0, none⟩ : Addr).add 3), 1), (((⟨H3.size, 0, none⟩ : Addr).add 4), 1), (((⟨H3.size, 0, none⟩ : Addr).add 8), 1), (((⟨H3.size, 0, none⟩ : Addr).add 9), 1)] ∧ (
  0 ≤ x24 ∧ x24 < (6 : Int) ∧ (∃ x25 : Int, rd H6 ((⟨H5.size, 0, none⟩ : Addr).add (x24.toNat * 1)) = some (.int .i64 x25) ∧ (
  letH (H6.push (.cells #[.int .i64 (0 : Int), .int .i64 (0 : Int), .int .i64 (0 : Int), .int .i64 (0 : Int), .bool false, .bool false, .bool false, .int .i64 (0 : Int), .int .i64 (0 : Int), .int .i64 (0 : Int), .slice none 0 0] t_api_Function (0, 0))) (fun H7 : Heap =>
  Keeps H6 H7 [((⟨H3.size, 0, none⟩ : Addr), 1), ((a1.add (x12.toNat * 1)), 1), (((⟨H3.size, 0, none⟩ : Addr).add 1), 1), (((⟨H3.size, 0, none⟩ : Addr).add 2), 1), (((⟨H3.size, 0, none⟩ : Addr).add 3), 1), (((⟨H3.size, 0, none⟩ : Addr).add 4), 1), (((⟨H3.size, 0, none⟩ : Addr).add 8), 1), (((⟨H3.size, 0, none⟩ : Addr).add 9), 1), (((⟨H5.size, 0, none⟩ : Addr).add (x24.toNat * 1)), 1)] ∧ (
  okRow H7 (⟨H6.size, 0, none⟩ : Addr) 11 ∧ (
  letH (wrs H7 (⟨H6.size, 0, none⟩ : Addr) [.int .i64 x13, .int .i64 x15, .int .i64 (IntKind.i64.wrap ((1 : Int) + x17)), .int .i64 x19, .bool true, .bool false, .bool false, .int .i64 (0 : Int), .int .i64 x22, .int .i64 x25, .slice none 0 0]) (fun H8 : Heap =>
  J_ (⟨H6.size, 0, none⟩ : Addr) H8))))))))) ∧ (
  letH (H5.push (.cells #[.int .i64 (0 : Int), .int .i64 (0 : Int), .int .i64 (0 : Int), .int .i64 (0 : Int), .bool false, .bool false, .bool false, .int .i64 (0 : Int), .int .i64 (0 : Int), .int .i64 (0 : Int), .slice none 0 0] t_api_Function (0, 0))) (fun H9 : Heap =>
  Keeps H5 H9 [((⟨H3.size, 0, none⟩ : Addr), 1), ((a1.add (x12.toNat * 1)), 1), (((⟨H3.size, 0, none⟩ : Addr).add 1), 1), (((⟨H3.size, 0, none⟩ : Addr).add 2), 1), (((⟨H3.size, 0, none⟩ : Addr).add 3), 1), (((⟨H3.size, 0, none⟩ : Addr).add 4), 1), (((⟨H3.size, 0, none⟩ : Addr).add 8), 1), (((⟨H3.size, 0, none⟩ : Addr).add 9), 1)] ∧ (
  letH (H9.push (.cells #[.int .i64 (0 : Int), .int .i64 (1 : Int), .int .i64 (2 : Int), .int .i64 (4 : Int), .int .i64 (16 : Int), .int .i64 (32 : Int)] t_int (0, 0))) (fun H10 : Heap =>
  Keeps H9 H10 [((⟨H3.size, 0, none⟩ : Addr), 1), ((a1.add (x12.toNat * 1)), 1), (((⟨H3.size, 0, none⟩ : Addr).add 1), 1), (((⟨H3.size, 0, none⟩ : Addr).add 2), 1), (((⟨H3.size, 0, none⟩ : Addr).add 3), 1), (((⟨H3.size, 0, none⟩ : Addr).add 4), 1), (((⟨H3.size, 0, none⟩ : Addr).add 8), 1), (((⟨H3.size, 0, none⟩ : Addr).add 9), 1)] ∧ (
  0 ≤ x24 ∧ x24 < (6 : Int) ∧ (∃ x26 : Int, rd H10 ((⟨H9.size, 0, none⟩ : Addr).add (x24.toNat * 1)) = some (.int .i64 x26) ∧ (
  okRow H10 (⟨H5.size, 0, none⟩ : Addr) 11 ∧ (
  letH (wrs H10 (⟨H5.size, 0, none⟩ : Addr) [.int .i64 x13, .int .i64 x15, .int .i64 (IntKind.i64.wrap ((1 : Int) + x17)), .int .i64 x19, .bool true, .bool false, .bool false, .int .i64 (0 : Int), .int .i64 x22, .int .i64 x26, .slice none 0 0]) (fun H11 : Heap =>
  J_ (⟨H5.size, 0, none⟩ : Addr) H11)))))))))))))))) (
  ∃ x27 : Int, rd H5 ((⟨H3.size, 0, none⟩ : Addr).add 2) = some (.int .i64 x27) ∧ (
  CallsP Try.prog n_help_Mod #[.int .i64 x27, .int .i64 (3 : Int)] (fun v6 =>
  ∃ x28 : Int, v6 = .int .i64 x28 ∧ (
  ∃ x29 : Int, rd H5 ((⟨H3.size, 0, none⟩ : Addr).add 8) = some (.int .i64 x29) ∧ (
  CallsP Try.prog n_help_Mod #[.int .i64 x29, .int .i64 (5 : Int)] (fun v7 =>
  ∃ x30 : Int, v7 = .int .i64 x30 ∧ (
  ∃ x31 : Int, rd H5 ((⟨H3.size, 0, none⟩ : Addr).add 9) = some (.int .i64 x31) ∧ (
  CallsP Try.prog n_help_Mod #[.int .i64 x31, .int .i64 (6 : Int)] (fun v8 =>
  ∃ x32 : Int, v8 = .int .i64 x32 ∧ (
  (
  letH (H5.push (.cells #[.int .i64 (0 : Int), .int .i64 (1 : Int), .int .i64 (2 : Int), .int .i64 (4 : Int), .int .i64 (16 : Int), .int .i64 (32 : Int)] t_int (0, 0))) (fun H12 : Heap =>
  Keeps H5 H12 [((⟨H3.size, 0, none⟩ : Addr), 1), ((a1.add (x12.toNat * 1)), 1), (((⟨H3.size, 0, none⟩ : Addr).add 1), 1), (((⟨H3.size, 0, none⟩ : Addr).add 2), 1), (((⟨H3.size, 0, none⟩ : Addr).add 3), 1), (((⟨H3.size, 0, none⟩ : Addr).add 4), 1), (((⟨H3.size, 0, none⟩ : Addr).add 2), 1), (((⟨H3.size, 0, none⟩ : Addr).add 8), 1), (((⟨H3.size, 0, none⟩ : Addr).add 9), 1)] ∧ (
  0 ≤ x32 ∧ x32 < (6 : Int) ∧ (∃ x33 : Int, rd H12 ((⟨H5.size, 0, none⟩ : Addr).add (x32.toNat * 1)) = some (.int .i64 x33) ∧ (
  letH (H12.push (.cells #[.int .i64 (0 : Int), .int .i64 (0 : Int), .int .i64 (0 : Int), .int .i64 (0 : Int), .bool false, .bool false, .bool false, .int .i64 (0 : Int), .int .i64 (0 : Int), .int .i64 (0 : Int), .slice none 0 0] t_api_Function (0, 0))) (fun H13 : Heap =>
  Keeps H12 H13 [((⟨H3.size, 0, none⟩ : Addr), 1), ((a1.add (x12.toNat * 1)), 1), (((⟨H3.size, 0, none⟩ : Addr).add 1), 1), (((⟨H3.size, 0, none⟩ : Addr).add 2), 1), (((⟨H3.size, 0, none⟩ : Addr).add 3), 1), (((⟨H3.size, 0, none⟩ : Addr).add 4), 1), (((⟨H3.size, 0, none⟩ : Addr).add 2), 1), (((⟨H3.size, 0, none⟩ : Addr).add 8), 1), (((⟨H3.size, 0, none⟩ : Addr).add 9), 1), (((⟨H5.size, 0, none⟩ : Addr).add (x32.toNat * 1)), 1)] ∧ (
  okRow H13 (⟨H12.size, 0, none⟩ : Addr) 11 ∧ (
  letH (wrs H13 (⟨H12.size, 0, none⟩ : Addr) [.int .i64 x13, .int .i64 x15, .int .i64 (IntKind.i64.wrap ((1 : Int) + x17)), .int .i64 x19, .bool (x28 == (0 : Int)), .bool false, .bool false, .int .i64 (0 : Int), .int .i64 x30, .int .i64 x33, .slice none 0 0]) (fun H14 : Heap =>
  J_ (⟨H12.size, 0, none⟩ : Addr) H14))))))))) ∧ (
  letH (H5.push (.cells #[.int .i64 (0 : Int), .int .i64 (0 : Int), .int .i64 (0 : Int), .int .i64 (0 : Int), .bool false, .bool false, .bool false, .int .i64 (0 : Int), .int .i64 (0 : Int), .int .i64 (0 : Int), .slice none 0 0] t_api_Function (0, 0))) (fun H15 : Heap =>
  Keeps H5 H15 [((⟨H3.size, 0, none⟩ : Addr), 1), ((a1.add (x12.toNat * 1)), 1), (((⟨H3.size, 0, none⟩ : Addr).add 1), 1), (((⟨H3.size, 0, none⟩ : Addr).add 2), 1), (((⟨H3.size, 0, none⟩ : Addr).add 3), 1), (((⟨H3.size, 0, none⟩ : Addr).add 4), 1), (((⟨H3.size, 0, none⟩ : Addr).add 2), 1), (((⟨H3.size, 0, none⟩ : Addr).add 8), 1), (((⟨H3.size, 0, none⟩ : Addr).add 9), 1)] ∧ (
  letH (H15.push (.cells #[.int .i64 (0 : Int), .int .i64 (1 : Int), .int .i64 (2 : Int), .int .i64 (4 : Int), .int .i64 (16 : Int), .int .i64 (32 : Int)] t_int (0, 0))) (fun H16 : Heap =>
  Keeps H15 H16 [((⟨H3.size, 0, none⟩ : Addr), 1), ((a1.add (x12.toNat * 1)), 1), (((⟨H3.size, 0, none⟩ : Addr).add 1), 1), (((⟨H3.size, 0, none⟩ : Addr).add 2), 1), (((⟨H3.size, 0, none⟩ : Addr).add 3), 1), (((⟨H3.size, 0, none⟩ : Addr).add 4), 1), (((⟨H3.size, 0, none⟩ : Addr).add 2), 1), (((⟨H3.size, 0, none⟩ : Addr).add 8), 1), (((⟨H3.size, 0, none⟩ : Addr).add 9), 1)] ∧ (
  0 ≤ x32 ∧ x32 < (6 : Int) ∧ (∃ x34 : Int, rd H16 ((⟨H15.size, 0, none⟩ : Addr).add (x32.toNat * 1)) = some (.int .i64 x34) ∧ (
  okRow H16 (⟨H5.size, 0, none⟩ : Addr) 11 ∧ (
  letH (wrs H16 (⟨H5.size, 0, none⟩ : Addr) [.int .i64 x13, .int .i64 x15, .int .i64 (IntKind.i64.wrap ((1 : Int) + x17)), .int .i64 x19, .bool (x28 == (0 : Int)), .bool false, .bool false, .int .i64 (0 : Int), .int .i64 x30, .int .i64 x34, .slice none 0 0]) (fun H17 : Heap =>
  J_ (⟨H5.size, 0, none⟩ : Addr) H17)))))))))))))))))))))))))))))))))))) ∧ (∀ g : Addr, ∀ H18 : Heap, J_ g H18 → F_gen_Topology_k4 H I_ M_ out bridges i H3 g H18)))))))) (
  R (.slice out.p out.n out.c) H3)) (
  R (.slice out.p out.n out.c) H3)

def F_gen_Topology (R : Value → Heap → Prop) (l : Sl) (most : Int) (H : Heap) : Prop :=
  letH (H.push (.map #[] 0)) (fun H1 : Heap =>
  letH (H1.push (.cells #[.int .i64 (-1 : Int)] t_int (0, 0))) (fun H2 : Heap =>
  ∃ I_ : Sl → Sl → Int → Heap → Prop, ∃ M_ : Sl → Sl → Int → Heap → Nat, I_ (Sl.mk none 0 0) (Sl.mk (some (⟨H1.size, 0, none⟩ : Addr)) 1 1) (0 : Int) H2 ∧ (∀ out : Sl, ∀ bridges : Sl, ∀ i : Int, ∀ H3 : Heap, I_ out bridges i H3 → F_gen_Topology_r5 R H l most I_ M_ out bridges i H3)))

theorem F_gen_Topology_eq (R : Value → Heap → Prop) (l : Sl) (most : Int) (H : Heap) : wpF Try.prog Try.f25 [(5, .slice none 0 0), (7, .slice none 0 0), (8, .int .i64 0), (10, .pointer (some ⟨0, 0, none⟩)), (11, .int .i64 0)] [(9, [10], [0, 1, 5, 6, 7, 8, 9]), (18, [7, 11], [0, 1, 5, 6, 8, 9, 10]), (15, [], [0, 1, 5, 6, 7, 8, 9, 10, 11]), (17, [], [0, 1, 5, 6, 7, 8, 9, 10, 11])] [(5, [5, 7, 8], [0, 1, 6])] [17] [.slice l.p l.n l.c, .int .i64 most] H R = F_gen_Topology R l most H := by kernel_rfl

theorem F_gen_Topology_ok {R : Value → Heap → Prop} (l : Sl) (most : Int) {H : Heap} (h : F_gen_Topology R l most H) : CallsH Try.prog n_gen_Topology #[.slice l.p l.n l.c, .int .i64 most] H R :=
  wpF_ok Try.func25 (F_gen_Topology_eq R l most H) h

/-! ### 26: platformfw/platformfwgen.Host -/

def F_gen_Host_k1 (H3 : Heap) (I_ : Int → Heap → Prop) (M_ : Int → Heap → Nat) (i : Int) (H27 : Heap) (H31 : Heap) : Prop :=
  ∃ x22 : Sl, rd H31 ((⟨H3.size, 0, none⟩ : Addr).add 6) = some (.slice x22.p x22.n x22.c) ∧ (
  ∃ x23 : Int, rd H31 (⟨H27.size, 0, none⟩ : Addr) = some (.int .u32 x23) ∧ (
  letH (H31.push (.cells #[.int .u32 x23] t_api_IntLink (0, 0))) (fun H32 : Heap =>
  runH Try.prog (Builtin.append_ #[t_sl_api_IntLink, t_sl_api_IntLink] t_sl_api_IntLink #[.slice x22.p x22.n x22.c, .slice (some (⟨H31.size, 0, none⟩ : Addr)) 1 1]) H32 (fun v8 H33 =>
  ∃ x24 : Sl, v8 = .slice x24.p x24.n x24.c ∧ (
  okRow H33 ((⟨H3.size, 0, none⟩ : Addr).add 6) 1 ∧ (
  letH (wrs H33 ((⟨H3.size, 0, none⟩ : Addr).add 6) [.slice x24.p x24.n x24.c]) (fun H34 : Heap =>
  letV (IntKind.i64.wrap (i + (1 : Int))) (fun i1 : Int =>
  I_ i1 H34 ∧ M_ i1 H34 < M_ i H27))))))))

def F_gen_Host_r2 (H : Heap) (H3 : Heap) (J_2 : Heap → Prop) (I_ : Int → Heap → Prop) (M_ : Int → Heap → Nat) (i : Int) (H27 : Heap) : Prop :=
  ∃ x18 : Sl, rd H27 ((⟨H.size, 0, none⟩ : Addr).add 6) = some (.slice x18.p x18.n x18.c) ∧ (
  iteB (decide (i < (x18.n : Int))) (
  iteB (decide (i < (5 : Int))) (
  ∃ x19 : Sl, rd H27 ((⟨H.size, 0, none⟩ : Addr).add 6) = some (.slice x19.p x19.n x19.c) ∧ (
  0 ≤ i ∧ i < (x19.n : Int) ∧ (unSome x19.p (fun a =>
  ∃ x20 : Int, rd H27 (a.add (i.toNat * 1)) = some (.int .u32 x20) ∧ (
  letH (H27.push (.cells #[.int .u32 (0 : Int)] t_api_IntLink (0, 0))) (fun H28 : Heap =>
  okRow H28 (⟨H27.size, 0, none⟩ : Addr) 1 ∧ (
  letH (wrs H28 (⟨H27.size, 0, none⟩ : Addr) [.int .u32 x20]) (fun H29 : Heap =>
  ∃ J_3 : Heap → Prop, (
  ∃ x21 : Int, rd H29 (⟨H27.size, 0, none⟩ : Addr) = some (.int .u32 x21) ∧ (
  iteB (x21 == (0 : Int)) (
  iteB ((i.tmod (2 : Int)) == (0 : Int)) (
  okRow H29 (⟨H27.size, 0, none⟩ : Addr) 1 ∧ (
  letH (wrs H29 (⟨H27.size, 0, none⟩ : Addr) [.int .u32 (7680 : Int)]) (fun H30 : Heap =>
  J_3 H30))) (
  J_3 H29)) (
  J_3 H29))) ∧ (∀ H31 : Heap, J_3 H31 → F_gen_Host_k1 H3 I_ M_ i H27 H31))))))))) (
  J_2 H27)) (
  J_2 H27))

def F_gen_Host_r3 (H : Heap) (H3 : Heap) (J_4 : Heap → Prop) (I_1 : Int → Heap → Prop) (M_1 : Int → Heap → Nat) (i2 : Int) (H36 : Heap) : Prop :=
  ∃ x25 : Sl, rd H36 ((⟨H.size, 0, none⟩ : Addr).add 7) = some (.slice x25.p x25.n x25.c) ∧ (
  iteB (decide (i2 < (x25.n : Int))) (
  iteB (decide (i2 < (40 : Int))) (
  ∃ x26 : Sl, rd H36 ((⟨H3.size, 0, none⟩ : Addr).add 6) = some (.slice x26.p x26.n x26.c) ∧ (
  iteB (decide ((x26.n : Int) > (0 : Int))) (
  ∃ x27 : Sl, rd H36 ((⟨H3.size, 0, none⟩ : Addr).add 7) = some (.slice x27.p x27.n x27.c) ∧ (
  ∃ x28 : Sl, rd H36 ((⟨H.size, 0, none⟩ : Addr).add 7) = some (.slice x28.p x28.n x28.c) ∧ (
  0 ≤ i2 ∧ i2 < (x28.n : Int) ∧ (unSome x28.p (fun a1 =>
  ∃ x29 : Int, rd H36 (a1.add (i2.toNat * 3)) = some (.int .i64 x29) ∧ (
  CallsP Try.prog n_help_Mod #[.int .i64 x29, .int .i64 (8 : Int)] (fun v9 =>
  ∃ x30 : Int, v9 = .int .i64 x30 ∧ (
  ∃ x31 : Sl, rd H36 ((⟨H.size, 0, none⟩ : Addr).add 7) = some (.slice x31.p x31.n x31.c) ∧ (
  0 ≤ i2 ∧ i2 < (x31.n : Int) ∧ (unSome x31.p (fun a2 =>
  ∃ x32 : Int, rd H36 ((a2.add (i2.toNat * 3)).add 1) = some (.int .i64 x32) ∧ (
  CallsP Try.prog n_help_Mod #[.int .i64 x32, .int .i64 (4 : Int)] (fun v10 =>
  ∃ x33 : Int, v10 = .int .i64 x33 ∧ (
  ∃ x34 : Sl, rd H36 ((⟨H.size, 0, none⟩ : Addr).add 7) = some (.slice x34.p x34.n x34.c) ∧ (
  0 ≤ i2 ∧ i2 < (x34.n : Int) ∧ (unSome x34.p (fun a3 =>
  ∃ x35 : Int, rd H36 ((a3.add (i2.toNat * 3)).add 2) = some (.int .i64 x35) ∧ (
  ∃ x36 : Sl, rd H36 ((⟨H3.size, 0, none⟩ : Addr).add 6) = some (.slice x36.p x36.n x36.c) ∧ (
  CallsP Try.prog n_help_Mod #[.int .i64 x35, .int .i64 (x36.n : Int)] (fun v11 =>
  ∃ x37 : Int, v11 = .int .i64 x37 ∧ (
  letH (H36.push (.cells #[.int .i64 x30, .int .i64 (IntKind.i64.wrap ((1 : Int) + x33)), .int .i64 x37] t_api_Route (0, 0))) (fun H37 : Heap =>
  Keeps H36 H37 [(((⟨H3.size, 0, none⟩ : Addr).add 7), 1)] ∧ (
  runH Try.prog (Builtin.append_ #[t_sl_api_Route, t_sl_api_Route] t_sl_api_Route #[.slice x27.p x27.n x27.c, .slice (some (⟨H36.size, 0, none⟩ : Addr)) 1 1]) H37 (fun v12 H38 =>
  ∃ x38 : Sl, v12 = .slice x38.p x38.n x38.c ∧ (
  okRow H38 ((⟨H3.size, 0, none⟩ : Addr).add 7) 1 ∧ (
  letH (wrs H38 ((⟨H3.size, 0, none⟩ : Addr).add 7) [.slice x38.p x38.n x38.c]) (fun H39 : Heap =>
  letV (IntKind.i64.wrap (i2 + (1 : Int))) (fun i3 : Int =>
  I_1 i3 H39 ∧ M_1 i3 H39 < M_1 i2 H36)))))))))))))))))))))))))))) (
  J_4 H36))) (
  J_4 H36)) (
  J_4 H36))

def F_gen_Host_r4 (R : Value → Heap → Prop) (H1 : Heap) (H3 : Heap) (I_2 : Int → Heap → Prop) (M_2 : Int → Heap → Nat) (i4 : Int) (H41 : Heap) : Prop :=
  iteB (decide (i4 < (32 : Int))) (
  ∃ x39 : Sl, rd H41 ((⟨H3.size, 0, none⟩ : Addr).add 6) = some (.slice x39.p x39.n x39.c) ∧ (
  iteB (decide ((x39.n : Int) > (0 : Int))) (
  ∃ x40 : Sl, rd H41 ((⟨H3.size, 0, none⟩ : Addr).add 7) = some (.slice x40.p x40.n x40.c) ∧ (
  ∃ x41 : Sl, rd H41 ((⟨H3.size, 0, none⟩ : Addr).add 6) = some (.slice x41.p x41.n x41.c) ∧ (
  (x41.n : Int) ≠ 0 ∧ (
  letH (H41.push (.cells #[.int .i64 (i4.tmod (8 : Int)), .int .i64 (IntKind.i64.wrap ((1 : Int) + (IntKind.i64.wrap (i4.tdiv (8 : Int))))), .int .i64 (i4.tmod (x41.n : Int))] t_api_Route (0, 0))) (fun H42 : Heap =>
  Keeps H41 H42 [(((⟨H3.size, 0, none⟩ : Addr).add 7), 1)] ∧ (
  runH Try.prog (Builtin.append_ #[t_sl_api_Route, t_sl_api_Route] t_sl_api_Route #[.slice x40.p x40.n x40.c, .slice (some (⟨H41.size, 0, none⟩ : Addr)) 1 1]) H42 (fun v13 H43 =>
  ∃ x42 : Sl, v13 = .slice x42.p x42.n x42.c ∧ (
  okRow H43 ((⟨H3.size, 0, none⟩ : Addr).add 7) 1 ∧ (
  letH (wrs H43 ((⟨H3.size, 0, none⟩ : Addr).add 7) [.slice x42.p x42.n x42.c]) (fun H44 : Heap =>
  letV (IntKind.i64.wrap (i4 + (1 : Int))) (fun i5 : Int =>
  I_2 i5 H44 ∧ M_2 i5 H44 < M_2 i4 H41))))))))))) (
  ∃ x43 : Int, rd H41 (⟨H3.size, 0, none⟩ : Addr) = some (.int .i64 x43) ∧ ∃ x44 : Sl, rd H41 ((⟨H3.size, 0, none⟩ : Addr).add 1) = some (.slice x44.p x44.n x44.c) ∧ ∃ x45 : Sl, rd H41 ((⟨H3.size, 0, none⟩ : Addr).add 2) = some (.slice x45.p x45.n x45.c) ∧ ∃ x46 : Sl, rd H41 ((⟨H3.size, 0, none⟩ : Addr).add 3) = some (.slice x46.p x46.n x46.c) ∧ ∃ x47 : Sl, rd H41 ((⟨H3.size, 0, none⟩ : Addr).add 4) = some (.slice x47.p x47.n x47.c) ∧ ∃ x48 : Sl, rd H41 ((⟨H3.size, 0, none⟩ : Addr).add 5) = some (.slice x48.p x48.n x48.c) ∧ ∃ x49 : Sl, rd H41 ((⟨H3.size, 0, none⟩ : Addr).add 6) = some (.slice x49.p x49.n x49.c) ∧ ∃ x50 : Sl, rd H41 ((⟨H3.size, 0, none⟩ : Addr).add 7) = some (.slice x50.p x50.n x50.c) ∧ (
  okRow H41 (⟨H1.size, 0, none⟩ : Addr) 8 ∧ (
  letH (wrs H41 (⟨H1.size, 0, none⟩ : Addr) [.int .i64 x43, .slice x44.p x44.n x44.c, .slice x45.p x45.n x45.c, .slice x46.p x46.n x46.c, .slice x47.p x47.n x47.c, .slice x48.p x48.n x48.c, .slice x49.p x49.n x49.c, .slice x50.p x50.n x50.c]) (fun H45 : Heap =>
  ∃ r : Int, rd H45 (⟨H1.size, 0, none⟩ : Addr) = some (.int .i64 r) ∧ ∃ r1 : Sl, rd H45 ((⟨H1.size, 0, none⟩ : Addr).add 1) = some (.slice r1.p r1.n r1.c) ∧ ∃ r2 : Sl, rd H45 ((⟨H1.size, 0, none⟩ : Addr).add 2) = some (.slice r2.p r2.n r2.c) ∧ ∃ r3 : Sl, rd H45 ((⟨H1.size, 0, none⟩ : Addr).add 3) = some (.slice r3.p r3.n r3.c) ∧ ∃ r4 : Sl, rd H45 ((⟨H1.size, 0, none⟩ : Addr).add 4) = some (.slice r4.p r4.n r4.c) ∧ ∃ r5 : Sl, rd H45 ((⟨H1.size, 0, none⟩ : Addr).add 5) = some (.slice r5.p r5.n r5.c) ∧ ∃ r6 : Sl, rd H45 ((⟨H1.size, 0, none⟩ : Addr).add 6) = some (.slice r6.p r6.n r6.c) ∧ ∃ r7 : Sl, rd H45 ((⟨H1.size, 0, none⟩ : Addr).add 7) = some (.slice r7.p r7.n r7.c) ∧ (
  R (.agg #[.int .i64 r, .slice r1.p r1.n r1.c, .slice r2.p r2.n r2.c, .slice r3.p r3.n r3.c, .slice r4.p r4.n r4.c, .slice r5.p r5.n r5.c, .slice r6.p r6.n r6.c, .slice r7.p r7.n r7.c]) H45))))))) (
  ∃ x51 : Int, rd H41 (⟨H3.size, 0, none⟩ : Addr) = some (.int .i64 x51) ∧ ∃ x52 : Sl, rd H41 ((⟨H3.size, 0, none⟩ : Addr).add 1) = some (.slice x52.p x52.n x52.c) ∧ ∃ x53 : Sl, rd H41 ((⟨H3.size, 0, none⟩ : Addr).add 2) = some (.slice x53.p x53.n x53.c) ∧ ∃ x54 : Sl, rd H41 ((⟨H3.size, 0, none⟩ : Addr).add 3) = some (.slice x54.p x54.n x54.c) ∧ ∃ x55 : Sl, rd H41 ((⟨H3.size, 0, none⟩ : Addr).add 4) = some (.slice x55.p x55.n x55.c) ∧ ∃ x56 : Sl, rd H41 ((⟨H3.size, 0, none⟩ : Addr).add 5) = some (.slice x56.p x56.n x56.c) ∧ ∃ x57 : Sl, rd H41 ((⟨H3.size, 0, none⟩ : Addr).add 6) = some (.slice x57.p x57.n x57.c) ∧ ∃ x58 : Sl, rd H41 ((⟨H3.size, 0, none⟩ : Addr).add 7) = some (.slice x58.p x58.n x58.c) ∧ (
  okRow H41 (⟨H1.size, 0, none⟩ : Addr) 8 ∧ (
  letH (wrs H41 (⟨H1.size, 0, none⟩ : Addr) [.int .i64 x51, .slice x52.p x52.n x52.c, .slice x53.p x53.n x53.c, .slice x54.p x54.n x54.c, .slice x55.p x55.n x55.c, .slice x56.p x56.n x56.c, .slice x57.p x57.n x57.c, .slice x58.p x58.n x58.c]) (fun H46 : Heap =>
  ∃ r8 : Int, rd H46 (⟨H1.size, 0, none⟩ : Addr) = some (.int .i64 r8) ∧ ∃ r9 : Sl, rd H46 ((⟨H1.size, 0, none⟩ : Addr).add 1) = some (.slice r9.p r9.n r9.c) ∧ ∃ r10 : Sl, rd H46 ((⟨H1.size, 0, none⟩ : Addr).add 2) = some (.slice r10.p r10.n r10.c) ∧ ∃ r11 : Sl, rd H46 ((⟨H1.size, 0, none⟩ : Addr).add 3) = some (.slice r11.p r11.n r11.c) ∧ ∃ r12 : Sl, rd H46 ((⟨H1.size, 0, none⟩ : Addr).add 4) = some (.slice r12.p r12.n r12.c) ∧ ∃ r13 : Sl, rd H46 ((⟨H1.size, 0, none⟩ : Addr).add 5) = some (.slice r13.p r13.n r13.c) ∧ ∃ r14 : Sl, rd H46 ((⟨H1.size, 0, none⟩ : Addr).add 6) = some (.slice r14.p r14.n r14.c) ∧ ∃ r15 : Sl, rd H46 ((⟨H1.size, 0, none⟩ : Addr).add 7) = some (.slice r15.p r15.n r15.c) ∧ (
  R (.agg #[.int .i64 r8, .slice r9.p r9.n r9.c, .slice r10.p r10.n r10.c, .slice r11.p r11.n r11.c, .slice r12.p r12.n r12.c, .slice r13.p r13.n r13.c, .slice r14.p r14.n r14.c, .slice r15.p r15.n r15.c]) H46)))))

def F_gen_Host_k5 (R : Value → Heap → Prop) (H1 : Heap) (H3 : Heap) (H40 : Heap) : Prop :=
  ∃ I_2 : Int → Heap → Prop, ∃ M_2 : Int → Heap → Nat, I_2 (0 : Int) H40 ∧ (∀ i4 : Int, ∀ H41 : Heap, I_2 i4 H41 → F_gen_Host_r4 R H1 H3 I_2 M_2 i4 H41)

def F_gen_Host_k6 (R : Value → Heap → Prop) (H : Heap) (H1 : Heap) (H3 : Heap) (H35 : Heap) : Prop :=
  ∃ J_4 : Heap → Prop, (
  ∃ I_1 : Int → Heap → Prop, ∃ M_1 : Int → Heap → Nat, I_1 (0 : Int) H35 ∧ (∀ i2 : Int, ∀ H36 : Heap, I_1 i2 H36 → F_gen_Host_r3 H H3 J_4 I_1 M_1 i2 H36)) ∧ (∀ H40 : Heap, J_4 H40 → F_gen_Host_k5 R H1 H3 H40)

def F_gen_Host_k7 (R : Value → Heap → Prop) (H : Heap) (H1 : Heap) (H3 : Heap) (H26 : Heap) : Prop :=
  ∃ J_2 : Heap → Prop, (
  ∃ I_ : Int → Heap → Prop, ∃ M_ : Int → Heap → Nat, I_ (0 : Int) H26 ∧ (∀ i : Int, ∀ H27 : Heap, I_ i H27 → F_gen_Host_r2 H H3 J_2 I_ M_ i H27)) ∧ (∀ H35 : Heap, J_2 H35 → F_gen_Host_k6 R H H1 H3 H35)

def F_gen_Host_k8 (R : Value → Heap → Prop) (H : Heap) (H1 : Heap) (H3 : Heap) (H8 : Heap) : Prop :=
  ∃ x4 : Sl, rd H8 ((⟨H.size, 0, none⟩ : Addr).add 1) = some (.slice x4.p x4.n x4.c) ∧ (
  CallsH Try.prog n_gen_ranges #[.slice x4.p x4.n x4.c, .int .u64 (4096 : Int), .int .u64 (65536 : Int), .int .u64 (1024 : Int), .int .i64 (3 : Int)] H8 (fun v2 H9 =>
  ∃ x5 : Sl, v2 = .slice x5.p x5.n x5.c ∧ (
  okRow H9 ((⟨H3.size, 0, none⟩ : Addr).add 1) 1 ∧ (
  letH (wrs H9 ((⟨H3.size, 0, none⟩ : Addr).add 1) [.slice x5.p x5.n x5.c]) (fun H10 : Heap =>
  ∃ x6 : Sl, rd H10 ((⟨H.size, 0, none⟩ : Addr).add 2) = some (.slice x6.p x6.n x6.c) ∧ (
  CallsH Try.prog n_gen_ranges #[.slice x6.p x6.n x6.c, .int .u64 (16777216 : Int), .int .u64 (4294967296 : Int), .int .u64 (262144 : Int), .int .i64 (3 : Int)] H10 (fun v3 H11 =>
  ∃ x7 : Sl, v3 = .slice x7.p x7.n x7.c ∧ (
  okRow H11 ((⟨H3.size, 0, none⟩ : Addr).add 2) 1 ∧ (
  letH (wrs H11 ((⟨H3.size, 0, none⟩ : Addr).add 2) [.slice x7.p x7.n x7.c]) (fun H12 : Heap =>
  ∃ x8 : Sl, rd H12 ((⟨H.size, 0, none⟩ : Addr).add 3) = some (.slice x8.p x8.n x8.c) ∧ (
  CallsH Try.prog n_gen_ranges #[.slice x8.p x8.n x8.c, .int .u64 (4294967296 : Int), .int .u64 (1099511627776 : Int), .int .u64 (268435456 : Int), .int .i64 (2 : Int)] H12 (fun v4 H13 =>
  ∃ x9 : Sl, v4 = .slice x9.p x9.n x9.c ∧ (
  okRow H13 ((⟨H3.size, 0, none⟩ : Addr).add 3) 1 ∧ (
  letH (wrs H13 ((⟨H3.size, 0, none⟩ : Addr).add 3) [.slice x9.p x9.n x9.c]) (fun H14 : Heap =>
  ∃ x10 : Sl, rd H14 ((⟨H.size, 0, none⟩ : Addr).add 4) = some (.slice x10.p x10.n x10.c) ∧ (
  CallsH Try.prog n_gen_ranges #[.slice x10.p x10.n x10.c, .int .u64 (0 : Int), .int .u64 (65536 : Int), .int .u64 (256 : Int), .int .i64 (2 : Int)] H14 (fun v5 H15 =>
  ∃ x11 : Sl, v5 = .slice x11.p x11.n x11.c ∧ (
  okRow H15 ((⟨H3.size, 0, none⟩ : Addr).add 4) 1 ∧ (
  letH (wrs H15 ((⟨H3.size, 0, none⟩ : Addr).add 4) [.slice x11.p x11.n x11.c]) (fun H16 : Heap =>
  ∃ x12 : Sl, rd H16 ((⟨H.size, 0, none⟩ : Addr).add 5) = some (.slice x12.p x12.n x12.c) ∧ (
  CallsH Try.prog n_gen_ranges #[.slice x12.p x12.n x12.c, .int .u64 (0 : Int), .int .u64 (4294967296 : Int), .int .u64 (65536 : Int), .int .i64 (2 : Int)] H16 (fun v6 H17 =>
  ∃ x13 : Sl, v6 = .slice x13.p x13.n x13.c ∧ (
  okRow H17 ((⟨H3.size, 0, none⟩ : Addr).add 5) 1 ∧ (
  letH (wrs H17 ((⟨H3.size, 0, none⟩ : Addr).add 5) [.slice x13.p x13.n x13.c]) (fun H18 : Heap =>
  ∃ J_1 : Heap → Prop, (
  ∃ x14 : Int, rd H18 (⟨H.size, 0, none⟩ : Addr) = some (.int .i64 x14) ∧ (
  CallsH Try.prog n_help_Mod #[.int .i64 x14, .int .i64 (3 : Int)] H18 (fun v7 H19 =>
  ∃ x15 : Int, v7 = .int .i64 x15 ∧ (
  iteB (decide (x15 > (0 : Int))) (
  ∃ x16 : Sl, rd H19 ((⟨H3.size, 0, none⟩ : Addr).add 4) = some (.slice x16.p x16.n x16.c) ∧ (
  0 ≤ (0 : Int) ∧ (0 : Int) ≤ (x16.c : Int) ∧ (
  letH (H19.push (.cells #[.int .u64 (4096 : Int), .int .u64 (61440 : Int)] t_api_Range (0, 0))) (fun H20 : Heap =>
  Keeps H19 H20 [(((⟨H3.size, 0, none⟩ : Addr).add 4), 1)] ∧ (
  okRow H20 ((⟨H3.size, 0, none⟩ : Addr).add 1) 1 ∧ (
  letH (wrs H20 ((⟨H3.size, 0, none⟩ : Addr).add 1) [.slice (some (⟨H19.size, 0, none⟩ : Addr)) 1 1]) (fun H21 : Heap =>
  okRow H21 ((⟨H3.size, 0, none⟩ : Addr).add 4) 1 ∧ (
  letH (wrs H21 ((⟨H3.size, 0, none⟩ : Addr).add 4) [.slice (slP x16.p x16.c 0 2) ((0 : Int).toNat - 0) (x16.c - 0)]) (fun H22 : Heap =>
  ∃ x17 : Sl, rd H22 ((⟨H3.size, 0, none⟩ : Addr).add 5) = some (.slice x17.p x17.n x17.c) ∧ (
  0 ≤ (0 : Int) ∧ (0 : Int) ≤ (x17.c : Int) ∧ (
  letH (H22.push (.cells #[.int .u64 (268435456 : Int), .int .u64 (4026531840 : Int)] t_api_Range (0, 0))) (fun H23 : Heap =>
  Keeps H22 H23 [(((⟨H3.size, 0, none⟩ : Addr).add 5), 1)] ∧ (
  okRow H23 ((⟨H3.size, 0, none⟩ : Addr).add 2) 1 ∧ (
  letH (wrs H23 ((⟨H3.size, 0, none⟩ : Addr).add 2) [.slice (some (⟨H22.size, 0, none⟩ : Addr)) 1 1]) (fun H24 : Heap =>
  okRow H24 ((⟨H3.size, 0, none⟩ : Addr).add 5) 1 ∧ (
  letH (wrs H24 ((⟨H3.size, 0, none⟩ : Addr).add 5) [.slice (slP x17.p x17.c 0 2) ((0 : Int).toNat - 0) (x17.c - 0)]) (fun H25 : Heap =>
  J_1 H25))))))))))))))))) (
  J_1 H19))))) ∧ (∀ H26 : Heap, J_1 H26 → F_gen_Host_k7 R H H1 H3 H26))))))))))))))))))))))))))

def F_gen_Host (R : Value → Heap → Prop) (h_0 : Int) (h_1 : Sl) (h_2 : Sl) (h_3 : Sl) (h_4 : Sl) (h_5 : Sl) (h_6 : Sl) (h_7 : Sl) (H : Heap) : Prop :=
  letH (H.push (.cells #[.int .i64 h_0, .slice h_1.p h_1.n h_1.c, .slice h_2.p h_2.n h_2.c, .slice h_3.p h_3.n h_3.c, .slice h_4.p h_4.n h_4.c, .slice h_5.p h_5.n h_5.c, .slice h_6.p h_6.n h_6.c, .slice h_7.p h_7.n h_7.c] t_api_Host (0, 0))) (fun H1 : Heap =>
  letH (H1.push (.cells #[.int .i64 (0 : Int), .slice none 0 0, .slice none 0 0, .slice none 0 0, .slice none 0 0, .slice none 0 0, .slice none 0 0, .slice none 0 0] t_api_Host (0, 0))) (fun H2 : Heap =>
  ∃ x : Int, rd H2 (⟨H.size, 0, none⟩ : Addr) = some (.int .i64 x) ∧ (
  CallsH Try.prog n_help_Mod #[.int .i64 x, .int .i64 (40 : Int)] H2 (fun v H3 =>
  ∃ x1 : Int, v = .int .i64 x1 ∧ (
  letH (H3.push (.cells #[.int .i64 (0 : Int), .slice none 0 0, .slice none 0 0, .slice none 0 0, .slice none 0 0, .slice none 0 0, .slice none 0 0, .slice none 0 0] t_api_Host (0, 0))) (fun H4 : Heap =>
  okRow H4 (⟨H3.size, 0, none⟩ : Addr) 8 ∧ (
  letH (wrs H4 (⟨H3.size, 0, none⟩ : Addr) [.int .i64 (IntKind.i64.wrap ((1 : Int) + x1)), .slice none 0 0, .slice none 0 0, .slice none 0 0, .slice none 0 0, .slice none 0 0, .slice none 0 0, .slice none 0 0]) (fun H5 : Heap =>
  ∃ J_ : Heap → Prop, (
  ∃ x2 : Int, rd H5 (⟨H.size, 0, none⟩ : Addr) = some (.int .i64 x2) ∧ (
  CallsH Try.prog n_help_Mod #[.int .i64 x2, .int .i64 (5 : Int)] H5 (fun v1 H6 =>
  ∃ x3 : Int, v1 = .int .i64 x3 ∧ (
  iteB (decide (x3 > (0 : Int))) (
  okRow H6 (⟨H3.size, 0, none⟩ : Addr) 1 ∧ (
  letH (wrs H6 (⟨H3.size, 0, none⟩ : Addr) [.int .i64 (256 : Int)]) (fun H7 : Heap =>
  J_ H7))) (
  J_ H6))))) ∧ (∀ H8 : Heap, J_ H8 → F_gen_Host_k8 R H H1 H3 H8)))))))))

theorem F_gen_Host_eq (R : Value → Heap → Prop) (h_0 : Int) (h_1 : Sl) (h_2 : Sl) (h_3 : Sl) (h_4 : Sl) (h_5 : Sl) (h_6 : Sl) (h_7 : Sl) (H : Heap) : wpF Try.prog Try.f26 [(4, .int .i64 0), (6, .int .i64 0), (7, .int .i64 0)] [(4, [], [1, 2, 3]), (12, [], [1, 2, 3]), (19, [], [1, 2, 3]), (18, [], [1, 2, 3, 4, 5]), (23, [], [2, 3])] [(13, [4], [1, 2, 3]), (20, [6], [1, 2, 3]), (24, [7], [2, 3])] [17] [.agg #[.int .i64 h_0, .slice h_1.p h_1.n h_1.c, .slice h_2.p h_2.n h_2.c, .slice h_3.p h_3.n h_3.c, .slice h_4.p h_4.n h_4.c, .slice h_5.p h_5.n h_5.c, .slice h_6.p h_6.n h_6.c, .slice h_7.p h_7.n h_7.c]] H R = F_gen_Host R h_0 h_1 h_2 h_3 h_4 h_5 h_6 h_7 H := by kernel_rfl

theorem F_gen_Host_ok {R : Value → Heap → Prop} (h_0 : Int) (h_1 : Sl) (h_2 : Sl) (h_3 : Sl) (h_4 : Sl) (h_5 : Sl) (h_6 : Sl) (h_7 : Sl) {H : Heap} (h : F_gen_Host R h_0 h_1 h_2 h_3 h_4 h_5 h_6 h_7 H) : CallsH Try.prog n_gen_Host #[.agg #[.int .i64 h_0, .slice h_1.p h_1.n h_1.c, .slice h_2.p h_2.n h_2.c, .slice h_3.p h_3.n h_3.c, .slice h_4.p h_4.n h_4.c, .slice h_5.p h_5.n h_5.c, .slice h_6.p h_6.n h_6.c, .slice h_7.p h_7.n h_7.c]] H R :=
  wpF_ok Try.func26 (F_gen_Host_eq R h_0 h_1 h_2 h_3 h_4 h_5 h_6 h_7 H) h

/-! ### 27: platformfw/allocate.Assign -/

def F_allocate_Assign_k1 (R : Value → Heap → Prop) (l : Sl) (H1 : Heap) (H7 : Heap) (x12 : Sl) (bridge : Int) (I_2 : Int → Heap → Prop) (M_2 : Int → Heap → Nat) (x24 : Int) (H16 : Heap) (free1 : Sl) (H20 : Heap) : Prop :=
  CallsH Try.prog n_allocate_placeBelow #[.slice l.p l.n l.c, .slice (some (⟨H7.size, 0, none⟩ : Addr)) ((x12.n : Int).toNat) ((x12.n : Int).toNat), .int .i64 bridge, .int .i64 x24, .slice free1.p free1.n free1.c] H20 (fun v5 H21 =>
  ∃ x36 : Int, ∃ x37 : Int, ∃ x38 : Int, ∃ x39 : Int, ∃ x40 : Int, v5 = .tuple #[.agg #[.int .i64 x36, .int .i64 x37, .int .u64 x38, .int .u64 x39], .int .i64 x40] ∧ (
  letH (H21.push (.cells #[.int .i64 (0 : Int), .int .i64 (0 : Int), .int .u64 (0 : Int), .int .u64 (0 : Int)] t_api_Certificate (0, 0))) (fun H22 : Heap =>
  okRow H22 (⟨H21.size, 0, none⟩ : Addr) 4 ∧ (
  letH (wrs H22 (⟨H21.size, 0, none⟩ : Addr) [.int .i64 x36, .int .i64 x37, .int .u64 x38, .int .u64 x39]) (fun H23 : Heap =>
  iteB (x40 != (0 : Int)) (
  ∃ x41 : Int, rd H23 (⟨H21.size, 0, none⟩ : Addr) = some (.int .i64 x41) ∧ ∃ x42 : Int, rd H23 ((⟨H21.size, 0, none⟩ : Addr).add 1) = some (.int .i64 x42) ∧ ∃ x43 : Int, rd H23 ((⟨H21.size, 0, none⟩ : Addr).add 2) = some (.int .u64 x43) ∧ ∃ x44 : Int, rd H23 ((⟨H21.size, 0, none⟩ : Addr).add 3) = some (.int .u64 x44) ∧ (
  okRow H23 (⟨H1.size, 0, none⟩ : Addr) 4 ∧ (
  letH (wrs H23 (⟨H1.size, 0, none⟩ : Addr) [.int .i64 x41, .int .i64 x42, .int .u64 x43, .int .u64 x44]) (fun H24 : Heap =>
  ∃ r8 : Int, rd H24 (⟨H1.size, 0, none⟩ : Addr) = some (.int .i64 r8) ∧ ∃ r9 : Int, rd H24 ((⟨H1.size, 0, none⟩ : Addr).add 1) = some (.int .i64 r9) ∧ ∃ r10 : Int, rd H24 ((⟨H1.size, 0, none⟩ : Addr).add 2) = some (.int .u64 r10) ∧ ∃ r11 : Int, rd H24 ((⟨H1.size, 0, none⟩ : Addr).add 3) = some (.int .u64 r11) ∧ (
  R (.tuple #[.slice none 0 0, .agg #[.int .i64 r8, .int .i64 r9, .int .u64 r10, .int .u64 r11], .int .i64 x40]) H24))))) (
  I_2 (IntKind.i64.wrap (x24 + (1 : Int))) H23 ∧ M_2 (IntKind.i64.wrap (x24 + (1 : Int))) H23 < M_2 x24 H16))))))

def F_allocate_Assign_r2 (R : Value → Heap → Prop) (H : Heap) (l : Sl) (H1 : Heap) (H7 : Heap) (x12 : Sl) (I_1 : Int → Heap → Prop) (M_1 : Int → Heap → Nat) (bridge : Int) (H14 : Heap) (I_2 : Int → Heap → Prop) (M_2 : Int → Heap → Nat) (x24 : Int) (H16 : Heap) : Prop :=
  iteB (decide (x24 < (3 : Int))) (
  ∃ J_2 : Sl → Heap → Prop, (
  iteB (decide (bridge < (0 : Int))) (
  ∃ x25 : Int, rd H16 (⟨H.size, 0, none⟩ : Addr) = some (.int .i64 x25) ∧ ∃ x26 : Sl, rd H16 ((⟨H.size, 0, none⟩ : Addr).add 1) = some (.slice x26.p x26.n x26.c) ∧ ∃ x27 : Sl, rd H16 ((⟨H.size, 0, none⟩ : Addr).add 2) = some (.slice x27.p x27.n x27.c) ∧ ∃ x28 : Sl, rd H16 ((⟨H.size, 0, none⟩ : Addr).add 3) = some (.slice x28.p x28.n x28.c) ∧ ∃ x29 : Sl, rd H16 ((⟨H.size, 0, none⟩ : Addr).add 4) = some (.slice x29.p x29.n x29.c) ∧ ∃ x30 : Sl, rd H16 ((⟨H.size, 0, none⟩ : Addr).add 5) = some (.slice x30.p x30.n x30.c) ∧ ∃ x31 : Sl, rd H16 ((⟨H.size, 0, none⟩ : Addr).add 6) = some (.slice x31.p x31.n x31.c) ∧ ∃ x32 : Sl, rd H16 ((⟨H.size, 0, none⟩ : Addr).add 7) = some (.slice x32.p x32.n x32.c) ∧ (
  CallsH Try.prog n_allocate_hostFree #[.agg #[.int .i64 x25, .slice x26.p x26.n x26.c, .slice x27.p x27.n x27.c, .slice x28.p x28.n x28.c, .slice x29.p x29.n x29.c, .slice x30.p x30.n x30.c, .slice x31.p x31.n x31.c, .slice x32.p x32.n x32.c], .int .i64 x24] H16 (fun v3 H17 =>
  ∃ free : Sl, v3 = .slice free.p free.n free.c ∧ (
  J_2 free H17)))) (
  CallsH Try.prog n_allocate_window #[.slice (some (⟨H7.size, 0, none⟩ : Addr)) ((x12.n : Int).toNat) ((x12.n : Int).toNat), .int .i64 bridge, .int .i64 x24] H16 (fun v4 H18 =>
  ∃ x33 : Int, ∃ x34 : Int, ∃ x35 : Bool, v4 = .tuple #[.int .u64 x33, .int .u64 x34, .bool x35] ∧ (
  iteB x35 (
  letH (H18.push (.cells #[.int .u64 x33, .int .u64 x34] t_api_Range (0, 0))) (fun H19 : Heap =>
  J_2 (Sl.mk (some (⟨H18.size, 0, none⟩ : Addr)) 1 1) H19)) (
  J_2 (Sl.mk none 0 0) H18))))) ∧ (∀ free1 : Sl, ∀ H20 : Heap, J_2 free1 H20 → F_allocate_Assign_k1 R l H1 H7 x12 bridge I_2 M_2 x24 H16 free1 H20)) (
  letV (IntKind.i64.wrap (bridge + (1 : Int))) (fun bridge2 : Int =>
  I_1 bridge2 H16 ∧ M_1 bridge2 H16 < M_1 bridge H14))

def F_allocate_Assign_k3 (R : Value → Heap → Prop) (H : Heap) (l : Sl) (H1 : Heap) (H7 : Heap) (x12 : Sl) (I_1 : Int → Heap → Prop) (M_1 : Int → Heap → Nat) (bridge : Int) (H14 : Heap) (H15 : Heap) : Prop :=
  ∃ I_2 : Int → Heap → Prop, ∃ M_2 : Int → Heap → Nat, I_2 (0 : Int) H15 ∧ (∀ x24 : Int, ∀ H16 : Heap, I_2 x24 H16 → F_allocate_Assign_r2 R H l H1 H7 x12 I_1 M_1 bridge H14 I_2 M_2 x24 H16)

def F_allocate_Assign_r4 (R : Value → Heap → Prop) (H : Heap) (l : Sl) (H1 : Heap) (H7 : Heap) (x12 : Sl) (I_1 : Int → Heap → Prop) (M_1 : Int → Heap → Nat) (bridge : Int) (H14 : Heap) : Prop :=
  iteB (decide (bridge < (l.n : Int))) (
  ∃ J_1 : Heap → Prop, (
  iteB (decide (bridge ≥ (0 : Int))) (
  0 ≤ bridge ∧ bridge < (l.n : Int) ∧ (unSome l.p (fun a1 =>
  ∃ x23 : Bool, rd H14 ((a1.add (bridge.toNat * 11)).add 4) = some (.bool x23) ∧ (
  iteB (!x23) (
  letV (IntKind.i64.wrap (bridge + (1 : Int))) (fun bridge1 : Int =>
  I_1 bridge1 H14 ∧ M_1 bridge1 H14 < M_1 bridge H14)) (
  J_1 H14))))) (
  J_1 H14)) ∧ (∀ H15 : Heap, J_1 H15 → F_allocate_Assign_k3 R H l H1 H7 x12 I_1 M_1 bridge H14 H15)) (
  okRow H14 (⟨H1.size, 0, none⟩ : Addr) 4 ∧ (
  letH (wrs H14 (⟨H1.size, 0, none⟩ : Addr) [.int .i64 (0 : Int), .int .i64 (0 : Int), .int .u64 (0 : Int), .int .u64 (0 : Int)]) (fun H25 : Heap =>
  ∃ r12 : Int, rd H25 (⟨H1.size, 0, none⟩ : Addr) = some (.int .i64 r12) ∧ ∃ r13 : Int, rd H25 ((⟨H1.size, 0, none⟩ : Addr).add 1) = some (.int .i64 r13) ∧ ∃ r14 : Int, rd H25 ((⟨H1.size, 0, none⟩ : Addr).add 2) = some (.int .u64 r14) ∧ ∃ r15 : Int, rd H25 ((⟨H1.size, 0, none⟩ : Addr).add 3) = some (.int .u64 r15) ∧ (
  R (.tuple #[.slice (some (⟨H7.size, 0, none⟩ : Addr)) ((x12.n : Int).toNat) ((x12.n : Int).toNat), .agg #[.int .i64 r12, .int .i64 r13, .int .u64 r14, .int .u64 r15], .int .i64 (0 : Int)]) H25))))

def F_allocate_Assign_r5 (R : Value → Heap → Prop) (H : Heap) (l : Sl) (H1 : Heap) (H7 : Heap) (x12 : Sl) (I_ : Int → Heap → Prop) (M_ : Int → Heap → Nat) (x14 : Int) (H10 : Heap) : Prop :=
  iteB (decide (x14 < (x12.n : Int))) (
  0 ≤ x14 ∧ x14 < (x12.n : Int) ∧ (unSome x12.p (fun a =>
  ∃ x15 : Int, rd H10 (a.add (x14.toNat * 4)) = some (.int .i64 x15) ∧ ∃ x16 : Int, rd H10 ((a.add (x14.toNat * 4)).add 1) = some (.int .i64 x16) ∧ ∃ x17 : Int, rd H10 ((a.add (x14.toNat * 4)).add 2) = some (.int .i64 x17) ∧ ∃ x18 : Int, rd H10 ((a.add (x14.toNat * 4)).add 3) = some (.int .i64 x18) ∧ (
  letH (H10.push (.cells #[.int .i64 (0 : Int), .int .i64 (0 : Int), .int .i64 (0 : Int), .int .i64 (0 : Int)] t_api_Need (0, 0))) (fun H11 : Heap =>
  okRow H11 (⟨H10.size, 0, none⟩ : Addr) 4 ∧ (
  letH (wrs H11 (⟨H10.size, 0, none⟩ : Addr) [.int .i64 x15, .int .i64 x16, .int .i64 x17, .int .i64 x18]) (fun H12 : Heap =>
  ∃ x19 : Int, rd H12 (⟨H10.size, 0, none⟩ : Addr) = some (.int .i64 x19) ∧ ∃ x20 : Int, rd H12 ((⟨H10.size, 0, none⟩ : Addr).add 1) = some (.int .i64 x20) ∧ ∃ x21 : Int, rd H12 ((⟨H10.size, 0, none⟩ : Addr).add 2) = some (.int .i64 x21) ∧ ∃ x22 : Int, rd H12 ((⟨H10.size, 0, none⟩ : Addr).add 3) = some (.int .i64 x22) ∧ (
  0 ≤ x14 ∧ x14 < (((x12.n : Int).toNat : Nat) : Int) ∧ (okRow H12 ((⟨H7.size, 0, none⟩ : Addr).add (x14.toNat * 5)) 4 ∧ (
  letH (wrs H12 ((⟨H7.size, 0, none⟩ : Addr).add (x14.toNat * 5)) [.int .i64 x19, .int .i64 x20, .int .i64 x21, .int .i64 x22]) (fun H13 : Heap =>
  I_ (IntKind.i64.wrap (x14 + (1 : Int))) H13 ∧ M_ (IntKind.i64.wrap (x14 + (1 : Int))) H13 < M_ x14 H10))))))))))) (
  ∃ I_1 : Int → Heap → Prop, ∃ M_1 : Int → Heap → Nat, I_1 (-1 : Int) H10 ∧ (∀ bridge : Int, ∀ H14 : Heap, I_1 bridge H14 → F_allocate_Assign_r4 R H l H1 H7 x12 I_1 M_1 bridge H14))

def F_allocate_Assign_k6 (R : Value → Heap → Prop) (H : Heap) (l : Sl) (H1 : Heap) (x10 : Bool) (H5 : Heap) : Prop :=
  iteB x10 (
  okRow H5 (⟨H1.size, 0, none⟩ : Addr) 4 ∧ (
  letH (wrs H5 (⟨H1.size, 0, none⟩ : Addr) [.int .i64 (0 : Int), .int .i64 (0 : Int), .int .u64 (0 : Int), .int .u64 (0 : Int)]) (fun H6 : Heap =>
  ∃ r : Int, rd H6 (⟨H1.size, 0, none⟩ : Addr) = some (.int .i64 r) ∧ ∃ r1 : Int, rd H6 ((⟨H1.size, 0, none⟩ : Addr).add 1) = some (.int .i64 r1) ∧ ∃ r2 : Int, rd H6 ((⟨H1.size, 0, none⟩ : Addr).add 2) = some (.int .u64 r2) ∧ ∃ r3 : Int, rd H6 ((⟨H1.size, 0, none⟩ : Addr).add 3) = some (.int .u64 r3) ∧ (
  R (.tuple #[.slice none 0 0, .agg #[.int .i64 r, .int .i64 r1, .int .u64 r2, .int .u64 r3], .int .i64 (1 : Int)]) H6)))) (
  ∃ x11 : Sl, rd H5 ((⟨H.size, 0, none⟩ : Addr).add 3) = some (.slice x11.p x11.n x11.c) ∧ (
  CallsH Try.prog n_resources_Needs #[.slice l.p l.n l.c, .bool (decide ((x11.n : Int) > (0 : Int)))] H5 (fun v2 H7 =>
  ∃ x12 : Sl, ∃ x13 : Int, v2 = .tuple #[.slice x12.p x12.n x12.c, .int .i64 x13] ∧ (
  iteB (x13 != (0 : Int)) (
  okRow H7 (⟨H1.size, 0, none⟩ : Addr) 4 ∧ (
  letH (wrs H7 (⟨H1.size, 0, none⟩ : Addr) [.int .i64 (0 : Int), .int .i64 (0 : Int), .int .u64 (0 : Int), .int .u64 (0 : Int)]) (fun H8 : Heap =>
  ∃ r4 : Int, rd H8 (⟨H1.size, 0, none⟩ : Addr) = some (.int .i64 r4) ∧ ∃ r5 : Int, rd H8 ((⟨H1.size, 0, none⟩ : Addr).add 1) = some (.int .i64 r5) ∧ ∃ r6 : Int, rd H8 ((⟨H1.size, 0, none⟩ : Addr).add 2) = some (.int .u64 r6) ∧ ∃ r7 : Int, rd H8 ((⟨H1.size, 0, none⟩ : Addr).add 3) = some (.int .u64 r7) ∧ (
  R (.tuple #[.slice none 0 0, .agg #[.int .i64 r4, .int .i64 r5, .int .u64 r6, .int .u64 r7], .int .i64 x13]) H8)))) (
  0 ≤ (x12.n : Int) ∧ (x12.n : Int) ≤ (x12.n : Int) ∧ (x12.n : Int) * ((40 : Nat) : Int) ≤ 281474976710656 ∧ (
  letH (H7.push (.cells (zeroRow (.agg #[.int .i64 (0 : Int), .int .i64 (0 : Int), .int .i64 (0 : Int), .int .i64 (0 : Int), .int .u64 (0 : Int)]) (x12.n : Int).toNat) t_api_Assignment (0, 0))) (fun H9 : Heap =>
  ∃ I_ : Int → Heap → Prop, ∃ M_ : Int → Heap → Nat, I_ (0 : Int) H9 ∧ (∀ x14 : Int, ∀ H10 : Heap, I_ x14 H10 → F_allocate_Assign_r5 R H l H1 H7 x12 I_ M_ x14 H10))))))))

def F_allocate_Assign (R : Value → Heap → Prop) (l : Sl) (h_0 : Int) (h_1 : Sl) (h_2 : Sl) (h_3 : Sl) (h_4 : Sl) (h_5 : Sl) (h_6 : Sl) (h_7 : Sl) (H : Heap) : Prop :=
  letH (H.push (.cells #[.int .i64 h_0, .slice h_1.p h_1.n h_1.c, .slice h_2.p h_2.n h_2.c, .slice h_3.p h_3.n h_3.c, .slice h_4.p h_4.n h_4.c, .slice h_5.p h_5.n h_5.c, .slice h_6.p h_6.n h_6.c, .slice h_7.p h_7.n h_7.c] t_api_Host (0, 0))) (fun H1 : Heap =>
  letH (H1.push (.cells #[.int .i64 (0 : Int), .int .i64 (0 : Int), .int .u64 (0 : Int), .int .u64 (0 : Int)] t_api_Certificate (0, 0))) (fun H2 : Heap =>
  ∃ J_ : Bool → Heap → Prop, (
  CallsH Try.prog n_enumerate_Valid #[.slice l.p l.n l.c] H2 (fun v H3 =>
  ∃ x : Bool, v = .bool x ∧ (
  iteB (!x) (
  J_ true H3) (
  ∃ x1 : Int, rd H3 (⟨H.size, 0, none⟩ : Addr) = some (.int .i64 x1) ∧ ∃ x2 : Sl, rd H3 ((⟨H.size, 0, none⟩ : Addr).add 1) = some (.slice x2.p x2.n x2.c) ∧ ∃ x3 : Sl, rd H3 ((⟨H.size, 0, none⟩ : Addr).add 2) = some (.slice x3.p x3.n x3.c) ∧ ∃ x4 : Sl, rd H3 ((⟨H.size, 0, none⟩ : Addr).add 3) = some (.slice x4.p x4.n x4.c) ∧ ∃ x5 : Sl, rd H3 ((⟨H.size, 0, none⟩ : Addr).add 4) = some (.slice x5.p x5.n x5.c) ∧ ∃ x6 : Sl, rd H3 ((⟨H.size, 0, none⟩ : Addr).add 5) = some (.slice x6.p x6.n x6.c) ∧ ∃ x7 : Sl, rd H3 ((⟨H.size, 0, none⟩ : Addr).add 6) = some (.slice x7.p x7.n x7.c) ∧ ∃ x8 : Sl, rd H3 ((⟨H.size, 0, none⟩ : Addr).add 7) = some (.slice x8.p x8.n x8.c) ∧ (
  CallsH Try.prog n_allocate_ValidHost #[.agg #[.int .i64 x1, .slice x2.p x2.n x2.c, .slice x3.p x3.n x3.c, .slice x4.p x4.n x4.c, .slice x5.p x5.n x5.c, .slice x6.p x6.n x6.c, .slice x7.p x7.n x7.c, .slice x8.p x8.n x8.c]] H3 (fun v1 H4 =>
  ∃ x9 : Bool, v1 = .bool x9 ∧ (
  J_ (!x9) H4))))))) ∧ (∀ x10 : Bool, ∀ H5 : Heap, J_ x10 H5 → F_allocate_Assign_k6 R H l H1 x10 H5)))

theorem F_allocate_Assign_eq (R : Value → Heap → Prop) (l : Sl) (h_0 : Int) (h_1 : Sl) (h_2 : Sl) (h_3 : Sl) (h_4 : Sl) (h_5 : Sl) (h_6 : Sl) (h_7 : Sl) (H : Heap) : wpF Try.prog Try.f27 [(12, .int .i64 0), (14, .slice none 0 0), (27, .bool false), (47, .int .i64 0), (74, .int .i64 0)] [(2, [27], [0, 3, 5]), (16, [], [0, 3, 5, 9, 12]), (25, [14], [0, 3, 5, 9, 12, 13, 74])] [(8, [47], [0, 3, 5, 9, 45, 46]), (13, [12], [0, 3, 5, 9]), (17, [74], [0, 3, 5, 9, 12])] [17] [.slice l.p l.n l.c, .agg #[.int .i64 h_0, .slice h_1.p h_1.n h_1.c, .slice h_2.p h_2.n h_2.c, .slice h_3.p h_3.n h_3.c, .slice h_4.p h_4.n h_4.c, .slice h_5.p h_5.n h_5.c, .slice h_6.p h_6.n h_6.c, .slice h_7.p h_7.n h_7.c]] H R = F_allocate_Assign R l h_0 h_1 h_2 h_3 h_4 h_5 h_6 h_7 H := by kernel_rfl

theorem F_allocate_Assign_ok {R : Value → Heap → Prop} (l : Sl) (h_0 : Int) (h_1 : Sl) (h_2 : Sl) (h_3 : Sl) (h_4 : Sl) (h_5 : Sl) (h_6 : Sl) (h_7 : Sl) {H : Heap} (h : F_allocate_Assign R l h_0 h_1 h_2 h_3 h_4 h_5 h_6 h_7 H) : CallsH Try.prog n_allocate_Assign #[.slice l.p l.n l.c, .agg #[.int .i64 h_0, .slice h_1.p h_1.n h_1.c, .slice h_2.p h_2.n h_2.c, .slice h_3.p h_3.n h_3.c, .slice h_4.p h_4.n h_4.c, .slice h_5.p h_5.n h_5.c, .slice h_6.p h_6.n h_6.c, .slice h_7.p h_7.n h_7.c]] H R :=
  wpF_ok Try.func27 (F_allocate_Assign_eq R l h_0 h_1 h_2 h_3 h_4 h_5 h_6 h_7 H) h

/-! ### 28: platformfw/platformfwref18.Needs -/

def F_ref18_Needs_r1 (l : Sl) (high : Bool) (all : Sl) (i1 : Int) (J_ : Sl → Heap → Prop) (I_2 : Sl → Int → Heap → Prop) (M_2 : Sl → Int → Heap → Nat) (own2 : Sl) (c : Int) (H7 : Heap) : Prop :=
  0 ≤ i1 ∧ i1 < (l.n : Int) ∧ (unSome l.p (fun a3 =>
  ∃ x6 : Bool, rd H7 ((a3.add (i1.toNat * 11)).add 4) = some (.bool x6) ∧ (
  iteB x6 (
  iteB (decide (c < (3 : Int))) (
  CallsH Try.prog n_ref18_window #[.slice l.p l.n l.c, .bool high, .int .i64 i1, .int .i64 c, .slice all.p all.n all.c] H7 (fun v3 H8 =>
  ∃ x7 : Int, ∃ x8 : Bool, v3 = .tuple #[.int .i64 x7, .bool x8] ∧ (
  iteB x8 (
  letH (H8.push (.cells #[.int .i64 i1, .int .i64 (IntKind.i64.wrap ((-1 : Int) - c)), .int .i64 c, .int .i64 x7] t_api_Need (0, 0))) (fun H9 : Heap =>
  runH Try.prog (Builtin.append_ #[t_sl_api_Need, t_sl_api_Need] t_sl_api_Need #[.slice own2.p own2.n own2.c, .slice (some (⟨H8.size, 0, none⟩ : Addr)) 1 1]) H9 (fun v4 H10 =>
  ∃ own3 : Sl, v4 = .slice own3.p own3.n own3.c ∧ (
  letV (IntKind.i64.wrap (c + (1 : Int))) (fun c1 : Int =>
  I_2 own3 c1 H10 ∧ M_2 own3 c1 H10 < M_2 own2 c H7))))) (
  letV (IntKind.i64.wrap (c + (1 : Int))) (fun c2 : Int =>
  I_2 own2 c2 H8 ∧ M_2 own2 c2 H8 < M_2 own2 c H7))))) (
  J_ own2 H7)) (
  J_ own2 H7))))

def F_ref18_Needs_r2 (R : Value → Heap → Prop) (I_ : Sl → Bool → Int → Heap → Prop) (M_ : Sl → Bool → Int → Heap → Nat) (all : Sl) (bad : Bool) (i1 : Int) (H2 : Heap) (own4 : Sl) (I_3 : Bool → Int → Heap → Prop) (M_3 : Bool → Int → Heap → Nat) (bad1 : Bool) (k3 : Int) (H12 : Heap) : Prop :=
  iteB (decide (k3 < (own4.n : Int))) (
  0 ≤ k3 ∧ k3 < (own4.n : Int) ∧ (unSome own4.p (fun a4 =>
  ∃ x9 : Int, rd H12 ((a4.add (k3.toNat * 4)).add 2) = some (.int .i64 x9) ∧ (
  0 ≤ x9 ∧ x9 < ((3 : Nat) : Int) ∧ (iteB (x9 == (0 : Int)) (
  iteB bad1 (
  letV (IntKind.i64.wrap (k3 + (1 : Int))) (fun k4 : Int =>
  I_3 true k4 H12 ∧ M_3 true k4 H12 < M_3 bad1 k3 H12)) (
  0 ≤ k3 ∧ k3 < (own4.n : Int) ∧ (unSome own4.p (fun a5 =>
  ∃ x10 : Int, rd H12 ((a5.add (k3.toNat * 4)).add 3) = some (.int .i64 x10) ∧ (
  letV (IntKind.i64.wrap (k3 + (1 : Int))) (fun k5 : Int =>
  I_3 (decide (x10 > (15 : Int))) k5 H12 ∧ M_3 (decide (x10 > (15 : Int))) k5 H12 < M_3 bad1 k3 H12)))))) (
  iteB (x9 == (1 : Int)) (
  iteB bad1 (
  letV (IntKind.i64.wrap (k3 + (1 : Int))) (fun k6 : Int =>
  I_3 true k6 H12 ∧ M_3 true k6 H12 < M_3 bad1 k3 H12)) (
  0 ≤ k3 ∧ k3 < (own4.n : Int) ∧ (unSome own4.p (fun a6 =>
  ∃ x11 : Int, rd H12 ((a6.add (k3.toNat * 4)).add 3) = some (.int .i64 x11) ∧ (
  letV (IntKind.i64.wrap (k3 + (1 : Int))) (fun k7 : Int =>
  I_3 (decide (x11 > (31 : Int))) k7 H12 ∧ M_3 (decide (x11 > (31 : Int))) k7 H12 < M_3 bad1 k3 H12)))))) (
  iteB (x9 == (2 : Int)) (
  iteB bad1 (
  letV (IntKind.i64.wrap (k3 + (1 : Int))) (fun k8 : Int =>
  I_3 true k8 H12 ∧ M_3 true k8 H12 < M_3 bad1 k3 H12)) (
  0 ≤ k3 ∧ k3 < (own4.n : Int) ∧ (unSome own4.p (fun a7 =>
  ∃ x12 : Int, rd H12 ((a7.add (k3.toNat * 4)).add 3) = some (.int .i64 x12) ∧ (
  letV (IntKind.i64.wrap (k3 + (1 : Int))) (fun k9 : Int =>
  I_3 (decide (x12 > (44 : Int))) k9 H12 ∧ M_3 (decide (x12 > (44 : Int))) k9 H12 < M_3 bad1 k3 H12)))))) (
  False)))))))) (
  iteB bad1 (
  R (.tuple #[.slice none 0 0, .int .i64 (11 : Int)]) H12) (
  runH Try.prog (Builtin.append_ #[t_sl_api_Need, t_sl_api_Need] t_sl_api_Need #[.slice own4.p own4.n own4.c, .slice all.p all.n all.c]) H12 (fun v5 H13 =>
  ∃ all1 : Sl, v5 = .slice all1.p all1.n all1.c ∧ (
  letV (IntKind.i64.wrap (i1 - (1 : Int))) (fun i2 : Int =>
  I_ all1 bad1 i2 H13 ∧ M_ all1 bad1 i2 H13 < M_ all bad i1 H2)))))

def F_ref18_Needs_k3 (R : Value → Heap → Prop) (I_ : Sl → Bool → Int → Heap → Prop) (M_ : Sl → Bool → Int → Heap → Nat) (all : Sl) (bad : Bool) (i1 : Int) (H2 : Heap) (own4 : Sl) (H11 : Heap) : Prop :=
  ∃ I_3 : Bool → Int → Heap → Prop, ∃ M_3 : Bool → Int → Heap → Nat, I_3 bad (0 : Int) H11 ∧ (∀ bad1 : Bool, ∀ k3 : Int, ∀ H12 : Heap, I_3 bad1 k3 H12 → F_ref18_Needs_r2 R I_ M_ all bad i1 H2 own4 I_3 M_3 bad1 k3 H12)

def F_ref18_Needs_r4 (R : Value → Heap → Prop) (l : Sl) (high : Bool) (I_ : Sl → Bool → Int → Heap → Prop) (M_ : Sl → Bool → Int → Heap → Nat) (all : Sl) (bad : Bool) (i1 : Int) (H2 : Heap) (I_1 : Sl → Int → Heap → Prop) (M_1 : Sl → Int → Heap → Nat) (own : Sl) (k : Int) (H3 : Heap) : Prop :=
  0 ≤ i1 ∧ i1 < (l.n : Int) ∧ (unSome l.p (fun a =>
  ∃ x1 : Sl, rd H3 ((a.add (i1.toNat * 11)).add 10) = some (.slice x1.p x1.n x1.c) ∧ (
  iteB (decide (k < (x1.n : Int))) (
  CallsH Try.prog n_ref18_Class #[.slice l.p l.n l.c, .bool high, .int .i64 i1, .int .i64 k] H3 (fun v1 H4 =>
  ∃ x2 : Int, ∃ x3 : Bool, v1 = .tuple #[.int .i64 x2, .bool x3] ∧ (
  iteB x3 (
  0 ≤ i1 ∧ i1 < (l.n : Int) ∧ (unSome l.p (fun a1 =>
  ∃ x4 : Sl, rd H4 ((a1.add (i1.toNat * 11)).add 10) = some (.slice x4.p x4.n x4.c) ∧ (
  0 ≤ k ∧ k < (x4.n : Int) ∧ (unSome x4.p (fun a2 =>
  ∃ x5 : Int, rd H4 ((a2.add (k.toNat * 2)).add 1) = some (.int .i64 x5) ∧ (
  letH (H4.push (.cells #[.int .i64 i1, .int .i64 k, .int .i64 x2, .int .i64 x5] t_api_Need (0, 0))) (fun H5 : Heap =>
  runH Try.prog (Builtin.append_ #[t_sl_api_Need, t_sl_api_Need] t_sl_api_Need #[.slice own.p own.n own.c, .slice (some (⟨H4.size, 0, none⟩ : Addr)) 1 1]) H5 (fun v2 H6 =>
  ∃ own1 : Sl, v2 = .slice own1.p own1.n own1.c ∧ (
  letV (IntKind.i64.wrap (k + (1 : Int))) (fun k1 : Int =>
  I_1 own1 k1 H6 ∧ M_1 own1 k1 H6 < M_1 own k H3))))))))))) (
  letV (IntKind.i64.wrap (k + (1 : Int))) (fun k2 : Int =>
  I_1 own k2 H4 ∧ M_1 own k2 H4 < M_1 own k H3))))) (
  ∃ J_ : Sl → Heap → Prop, (
  ∃ I_2 : Sl → Int → Heap → Prop, ∃ M_2 : Sl → Int → Heap → Nat, I_2 own (0 : Int) H3 ∧ (∀ own2 : Sl, ∀ c : Int, ∀ H7 : Heap, I_2 own2 c H7 → F_ref18_Needs_r1 l high all i1 J_ I_2 M_2 own2 c H7)) ∧ (∀ own4 : Sl, ∀ H11 : Heap, J_ own4 H11 → F_ref18_Needs_k3 R I_ M_ all bad i1 H2 own4 H11)))))

def F_ref18_Needs_r5 (R : Value → Heap → Prop) (l : Sl) (high : Bool) (I_ : Sl → Bool → Int → Heap → Prop) (M_ : Sl → Bool → Int → Heap → Nat) (all : Sl) (bad : Bool) (i1 : Int) (H2 : Heap) : Prop :=
  iteB (decide (i1 ≥ (0 : Int))) (
  ∃ I_1 : Sl → Int → Heap → Prop, ∃ M_1 : Sl → Int → Heap → Nat, I_1 (Sl.mk none 0 0) (0 : Int) H2 ∧ (∀ own : Sl, ∀ k : Int, ∀ H3 : Heap, I_1 own k H3 → F_ref18_Needs_r4 R l high I_ M_ all bad i1 H2 I_1 M_1 own k H3)) (
  R (.tuple #[.slice all.p all.n all.c, .int .i64 (0 : Int)]) H2)

def F_ref18_Needs (R : Value → Heap → Prop) (l : Sl) (high : Bool) (H : Heap) : Prop :=
  CallsH Try.prog n_ref18_Valid #[.slice l.p l.n l.c] H (fun v H1 =>
  ∃ x : Bool, v = .bool x ∧ (
  iteB (!x) (
  R (.tuple #[.slice none 0 0, .int .i64 (1 : Int)]) H1) (
  letV (IntKind.i64.wrap ((l.n : Int) - (1 : Int))) (fun i : Int =>
  ∃ I_ : Sl → Bool → Int → Heap → Prop, ∃ M_ : Sl → Bool → Int → Heap → Nat, I_ (Sl.mk none 0 0) false i H1 ∧ (∀ all : Sl, ∀ bad : Bool, ∀ i1 : Int, ∀ H2 : Heap, I_ all bad i1 H2 → F_ref18_Needs_r5 R l high I_ M_ all bad i1 H2)))))

theorem F_ref18_Needs_eq (R : Value → Heap → Prop) (l : Sl) (high : Bool) (H : Heap) : wpF Try.prog Try.f28 [(6, .slice none 0 0), (7, .bool false), (8, .int .i64 0), (9, .slice none 0 0), (10, .int .i64 0), (13, .int .i64 0), (16, .int .i64 0)] [(21, [9], [0, 1, 6, 7, 8])] [(6, [6, 7, 8], [0, 1]), (10, [9, 10], [0, 1, 6, 7, 8]), (16, [9, 13], [0, 1, 6, 7, 8]), (22, [7, 16], [0, 1, 6, 8, 9])] [17] [.slice l.p l.n l.c, .bool high] H R = F_ref18_Needs R l high H := by kernel_rfl

theorem F_ref18_Needs_ok {R : Value → Heap → Prop} (l : Sl) (high : Bool) {H : Heap} (h : F_ref18_Needs R l high H) : CallsH Try.prog n_ref18_Needs #[.slice l.p l.n l.c, .bool high] H R :=
  wpF_ok Try.func28 (F_ref18_Needs_eq R l high H) h

end Go.Proofs.Ytigcheamheiopaa
