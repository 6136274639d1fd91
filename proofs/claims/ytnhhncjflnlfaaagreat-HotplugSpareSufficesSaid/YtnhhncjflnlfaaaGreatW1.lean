/-
  The shallow readings of this seat's functions, written by a program (gen.py); the kernel holds each against the loaded program.
-/
import Derived.Test.YtnhhncjflnlfaaaGreatProg
import Derived.Test.YtnhhncjflnlfaaaGreatEngS
namespace Go.Proofs.YtnhhncjflnlfaaaGreat
open Go.Eng
set_option linter.unusedVariables false
local notation:max "S%" x:max => Value.slice (Sl.p x) (Sl.n x) (Sl.c x)
local notation:max "I%" x:max => Value.int IntKind.i64 x
local notation:max "U%" x:max => Value.int IntKind.u64 x
local notation:max "Z%" => Value.int IntKind.i64 (0 : Int)
local notation:max "N%" => Value.slice none 0 0
local notation:max "&%" x:max => (Addr.mk (Array.size x) 0 none : Addr)
local notation:max "+%" x:max n:max => Addr.add (Addr.mk (Array.size x) 0 none) n
local notation:max "V%" => Value → Heap → Prop
local notation:max "P%" => Heap → Prop
local notation:max "M%" => Heap → Nat
local notation:max "W%" => IntKind.wrap IntKind.i64
local notation:max "w%" => IntKind.wrap IntKind.u64
local macro "i% " x:ident h:term:max a:term:max ", " b:term : term => `(∃ $x:ident : Int, rd $h $a = some (Value.int IntKind.i64 $x) ∧ $b)
local macro "u% " x:ident h:term:max a:term:max ", " b:term : term => `(∃ $x:ident : Int, rd $h $a = some (Value.int IntKind.u64 $x) ∧ $b)
local macro "s% " x:ident h:term:max a:term:max ", " b:term : term => `(∃ $x:ident : Sl, rd $h $a = some (Value.slice (Sl.p $x) (Sl.n $x) (Sl.c $x)) ∧ $b)
local macro "b% " x:ident h:term:max a:term:max ", " b:term : term => `(∃ $x:ident : Bool, rd $h $a = some (Value.bool $x) ∧ $b)
local macro "h% " x:ident v:term:max b:term:max : term => `(letH $v (fun $x : Heap => $b))
local macro "v% " x:ident v:term:max b:term:max : term => `(letV $v (fun $x : Int => $b))
local macro "x% " i:ident s:ident a:ident b:term:max : term => `(0 ≤ $i ∧ $i < (Sl.n $s : Int) ∧ (unSome (Sl.p $s) (fun $a => $b)))
local macro "j% " x0:ident x1:ident x2:ident x3:ident x4:ident x5:ident x6:ident x7:ident h:ident a:term:max ", " b:term : term => `(i% $x0 $h $a, s% $x1 $h (Addr.add $a 1), s% $x2 $h (Addr.add $a 2), s% $x3 $h (Addr.add $a 3), s% $x4 $h (Addr.add $a 4), s% $x5 $h (Addr.add $a 5), s% $x6 $h (Addr.add $a 6), s% $x7 $h (Addr.add $a 7), $b)
local macro "f% " x0:ident x1:ident x2:ident x3:ident x4:ident x5:ident x6:ident x7:ident x8:ident x9:ident x10:ident h:ident a:term:max ", " b:term : term => `(i% $x0 $h $a, i% $x1 $h (Addr.add $a 1), i% $x2 $h (Addr.add $a 2), i% $x3 $h (Addr.add $a 3), b% $x4 $h (Addr.add $a 4), b% $x5 $h (Addr.add $a 5), b% $x6 $h (Addr.add $a 6), i% $x7 $h (Addr.add $a 7), i% $x8 $h (Addr.add $a 8), i% $x9 $h (Addr.add $a 9), s% $x10 $h (Addr.add $a 10), $b)
local macro "a% " x0:ident x1:ident x2:ident x3:ident x4:ident h:ident a:term:max ", " b:term : term => `(i% $x0 $h $a, i% $x1 $h (Addr.add $a 1), i% $x2 $h (Addr.add $a 2), i% $x3 $h (Addr.add $a 3), u% $x4 $h (Addr.add $a 4), $b)
local macro "g% " x0:ident x1:ident x2:ident x3:ident x4:ident x5:ident x6:ident x7:ident : term => `(Value.agg #[I% $x0, S% $x1, S% $x2, S% $x3, S% $x4, S% $x5, S% $x6, S% $x7])
abbrev n_law23_HotplugPlans : FuncId := 3
abbrev n_law23_HotplugPlanIsCorrect : FuncId := 4
abbrev n_law23_HotplugDriversAreStopped : FuncId := 5
abbrev n_law23_HotplugSpareSuffices : FuncId := 6
abbrev n_law23_HotplugRefusalsAreJustified : FuncId := 7
abbrev n_law23_plugged : FuncId := 8
abbrev n_help_Mod : FuncId := 9
abbrev n_hotplug_Plan : FuncId := 10
abbrev n_ref21_Plan : FuncId := 11
abbrev n_law23_awake : FuncId := 12
abbrev n_help_Equal_api_Assignment : FuncId := 13
abbrev n_help_Equal_api_Move : FuncId := 14
abbrev n_allocate_Check : FuncId := 15
abbrev n_ref18_Needs : FuncId := 16
abbrev n_ref18_NeedsBelow : FuncId := 17
abbrev n_allocate_Refutes : FuncId := 18
abbrev n_ref21_Space : FuncId := 19
abbrev n_gen_Topology : FuncId := 20
abbrev n_gen_Host : FuncId := 21
abbrev n_ref21_Assign : FuncId := 22
abbrev n_ref21_Add : FuncId := 23
abbrev n_law23_port : FuncId := 24
abbrev n_law23_card : FuncId := 25
abbrev n_hotplug_validPlan : FuncId := 26
abbrev n_resources_Needs : FuncId := 27
abbrev n_hotplug_newExtension : FuncId := 28
abbrev n_hotplug_extension_keep : FuncId := 29
abbrev n_hotplug_extension_fillPorts : FuncId := 30
abbrev n_hotplug_extension_fillBridges : FuncId := 31
abbrev n_hotplug_extension_assignments : FuncId := 32
abbrev n_hotplug_extensionMoves : FuncId := 33
abbrev n_allocate_Assign : FuncId := 34
abbrev n_hotplug_reassignmentMoves : FuncId := 35
abbrev n_ref21_acceptable : FuncId := 36
abbrev n_ref21_Check : FuncId := 37
abbrev n_ref21_extend : FuncId := 38
abbrev n_ref21_moves : FuncId := 39
abbrev n_hotplug_NewSlot : FuncId := 40
abbrev n_hotplug_Slot_Handle : FuncId := 41
abbrev n_hotplug_Slot_Advance : FuncId := 42
abbrev n_help_Equal_int : FuncId := 43
abbrev n_hotplug_Slot_State : FuncId := 44
abbrev n_enumerate_Valid : FuncId := 45
abbrev n_allocate_ValidHost : FuncId := 46
abbrev n_allocate_covers : FuncId := 47
abbrev n_allocate_hostFree : FuncId := 48
abbrev n_allocate_window : FuncId := 49
abbrev n_allocate_inside : FuncId := 50
abbrev n_allocate_overlap : FuncId := 51
abbrev n_ref18_Valid : FuncId := 52
abbrev n_ref18_Class : FuncId := 53
abbrev n_ref18_window : FuncId := 54
abbrev n_allocate_placeable : FuncId := 55
abbrev n_allocate_demand : FuncId := 56
abbrev n_allocate_Blocks : FuncId := 57
abbrev n_ref21_Free : FuncId := 58
abbrev n_gen_bars : FuncId := 59
abbrev n_gen_ranges : FuncId := 60
abbrev n_ref21_ValidHost : FuncId := 61
abbrev n_ref21_place : FuncId := 62
abbrev n_ref21_at : FuncId := 63
abbrev n_ref21_port : FuncId := 64
abbrev n_ref18_Below : FuncId := 65
abbrev n_hotplug_isPort : FuncId := 66
abbrev n_resources_registers : FuncId := 67
abbrev n_resources_windows : FuncId := 68
abbrev n_resources_largest : FuncId := 69
abbrev n_hotplug_extension_find : FuncId := 70
abbrev n_hotplug_extension_fill : FuncId := 71
abbrev n_hotplug_writeMove : FuncId := 72
abbrev n_allocate_placeBelow : FuncId := 73
abbrev n_hotplug_byFunction : FuncId := 74
abbrev n_slices_Equal_sl_api_Assignment_api_Assignment : FuncId := 75
abbrev n_ref21_span : FuncId := 76
abbrev n_ref21_inside : FuncId := 77
abbrev n_ref21_fit : FuncId := 78
abbrev n_ref21_affected : FuncId := 79
abbrev n_hotplug_Slot_enter : FuncId := 80
abbrev n_hotplug_saturatingSum : FuncId := 81
abbrev n_pciconf_Valid : FuncId := 82
abbrev n_allocate_validRanges : FuncId := 83
abbrev n_allocate_within : FuncId := 84
abbrev n_allocate_Free : FuncId := 85
abbrev n_ref18_ValidFunction : FuncId := 86
abbrev n_ref18_bar : FuncId := 87
abbrev n_ref18_above : FuncId := 88
abbrev n_ref18_WindowSize : FuncId := 89
abbrev n_allocate_countBlocks : FuncId := 90
abbrev n_allocate_merged : FuncId := 91
abbrev n_ref21_ValidRanges : FuncId := 92
abbrev n_ref21_merge : FuncId := 93
abbrev n_ref21_remove : FuncId := 94
abbrev n_ref21_within : FuncId := 95
abbrev n_ref21_Place : FuncId := 96
abbrev n_resources_classOf : FuncId := 97
abbrev n_resources_prefAbove : FuncId := 98
abbrev n_resources_WindowSize : FuncId := 99
abbrev n_slices_IndexFunc_sl_api_Need_api_Need : FuncId := 100
abbrev n_hotplug_extension_find_1 : FuncId := 101
abbrev n_hotplug_extension_span : FuncId := 102
abbrev n_allocate_Place : FuncId := 103
abbrev n_ref21_of : FuncId := 104
abbrev n_pciconf_registers : FuncId := 105
abbrev n_pciconf_validBar : FuncId := 106
abbrev n_ref18_Registers : FuncId := 107
abbrev n_slices_Clone_sl_api_Range_api_Range : FuncId := 108
abbrev n_slices_SortFunc_sl_api_Range_api_Range : FuncId := 109
abbrev n_allocate_merged_1 : FuncId := 110
abbrev n_cmp_Compare_uint64 : FuncId := 111
abbrev n_ref21_items : FuncId := 112
abbrev n_ref21_up : FuncId := 113
abbrev n_ref21_refusal : FuncId := 114
abbrev n_math_bits_Len64 : FuncId := 115
abbrev n_slices_SortStableFunc_sl_int_int : FuncId := 116
abbrev n_allocate_Place_1 : FuncId := 117
abbrev n_cmp_Compare_int : FuncId := 118
abbrev n_allocate_take : FuncId := 119
abbrev n_allocate_certificate : FuncId := 120
abbrev n_slices_pdqsortCmpFunc_api_Range : FuncId := 121
abbrev n_math_bits_Len : FuncId := 122
abbrev n_cmp_isNaN_uint64 : FuncId := 123
abbrev n_ref21_demand : FuncId := 124
abbrev n_ref21_Blocks : FuncId := 125
abbrev n_slices_stableCmpFunc_int : FuncId := 126
abbrev n_cmp_isNaN_int : FuncId := 127
abbrev n_slices_Replace_sl_api_Range_api_Range : FuncId := 128
abbrev n_slices_insertionSortCmpFunc_api_Range : FuncId := 129
abbrev n_slices_heapSortCmpFunc_api_Range : FuncId := 130
abbrev n_slices_breakPatternsCmpFunc_api_Range : FuncId := 131
abbrev n_slices_choosePivotCmpFunc_api_Range : FuncId := 132
abbrev n_slices_reverseRangeCmpFunc_api_Range : FuncId := 133
abbrev n_slices_partialInsertionSortCmpFunc_api_Range : FuncId := 134
abbrev n_slices_partitionEqualCmpFunc_api_Range : FuncId := 135
abbrev n_slices_partitionCmpFunc_api_Range : FuncId := 136
abbrev n_math_bits_Len32 : FuncId := 137
abbrev n_slices_insertionSortCmpFunc_int : FuncId := 138
abbrev n_slices_symMergeCmpFunc_int : FuncId := 139
abbrev n_slices_Insert_sl_api_Range_api_Range : FuncId := 140
abbrev n_slices_overlaps_api_Range : FuncId := 141
abbrev n_slices_rotateRight_api_Range : FuncId := 142
abbrev n_slices_startIdx_api_Range : FuncId := 143
abbrev n_slices_siftDownCmpFunc_api_Range : FuncId := 144
abbrev n_slices_nextPowerOfTwo : FuncId := 145
abbrev n_slices_xorshift_Next : FuncId := 146
abbrev n_slices_medianAdjacentCmpFunc_api_Range : FuncId := 147
abbrev n_slices_medianCmpFunc_api_Range : FuncId := 148
abbrev n_slices_rotateCmpFunc_int : FuncId := 149
abbrev n_slices_rotateLeft_api_Range : FuncId := 150
abbrev n_slices_order2CmpFunc_api_Range : FuncId := 151
abbrev n_slices_swapRangeCmpFunc_int : FuncId := 152
abbrev n_slices_Reverse_sl_api_Range_api_Range : FuncId := 153
abbrev n_runtime_boundsError_Error : FuncId := 154
abbrev n_runtime_boundsError_RuntimeError : FuncId := 155
abbrev n_runtime_errorString_Error : FuncId := 156
abbrev n_runtime_errorString_RuntimeError : FuncId := 157
abbrev n_runtime_plainError_Error : FuncId := 158
abbrev n_runtime_plainError_RuntimeError : FuncId := 159
abbrev n_runtime_errorAddressString_Error : FuncId := 160
abbrev n_runtime_errorAddressString_RuntimeError : FuncId := 161
abbrev n_runtime_TypeAssertionError_Error : FuncId := 162
abbrev n_runtime_TypeAssertionError_RuntimeError : FuncId := 163
abbrev n_runtime_PanicNilError_Error : FuncId := 164
abbrev n_runtime_PanicNilError_RuntimeError : FuncId := 165
abbrev n_internal_abi_Type_Align : FuncId := 166
abbrev n_internal_runtime_maps_unhashableTypeError_Error : FuncId := 167
abbrev n_internal_runtime_maps_unhashableTypeError_RuntimeError : FuncId := 168
abbrev n_internal_abi_Kind_String : FuncId := 169
abbrev t_int64 : TypeId := 2
abbrev t_int : TypeId := 3
abbrev t_bool : TypeId := 4
abbrev t_uint8 : TypeId := 5
abbrev t_abi_BoundsErrorCode : TypeId := 6
abbrev t_runtime_boundsError : TypeId := 8
abbrev t_string : TypeId := 9
abbrev t_runtime_errorString : TypeId := 10
abbrev t_runtime_plainError : TypeId := 11
abbrev t_uintptr : TypeId := 12
abbrev t_runtime_errorAddressString : TypeId := 14
abbrev t_p_runtime_TypeAssertionError : TypeId := 15
abbrev t_p_runtime_PanicNilError : TypeId := 16
abbrev t_p_abi_Type : TypeId := 17
abbrev t_maps_unhashableTypeError : TypeId := 19
abbrev t_int32 : TypeId := 21
abbrev t_sl_api_Function : TypeId := 22
abbrev t_sl_api_Range : TypeId := 23
abbrev t_sl_api_IntLink : TypeId := 24
abbrev t_sl_api_Route : TypeId := 25
abbrev t_api_Host : TypeId := 27
abbrev t_api_Need : TypeId := 29
abbrev t_uint64 : TypeId := 30
abbrev t_api_Assignment : TypeId := 32
abbrev t_sl_api_Assignment : TypeId := 33
abbrev t_sl_api_Move : TypeId := 37
abbrev t_api_Certificate : TypeId := 39
abbrev t_api_Errno : TypeId := 40
abbrev t_api_Move : TypeId := 47
abbrev t_sl_bool : TypeId := 51
abbrev t_sl_int : TypeId := 52
abbrev t_sl_api_Need : TypeId := 53
abbrev t_sl_api_Bar : TypeId := 56
abbrev t_api_Function : TypeId := 58
abbrev t_uint : TypeId := 70
abbrev t_p_hotplug_extension : TypeId := 72
abbrev t_p_hotplug_Slot : TypeId := 80
abbrev t_3_sl_api_Range : TypeId := 91
abbrev t_api_Range : TypeId := 95
abbrev t_api_Bar : TypeId := 101
abbrev t_3_int : TypeId := 103
abbrev t_map_2_int_bool : TypeId := 108
abbrev t_2_int : TypeId := 109
abbrev t_uint32 : TypeId := 112
abbrev t_api_IntLink : TypeId := 114
abbrev t_api_Route : TypeId := 116
abbrev t_sl_sl_api_Need : TypeId := 122
abbrev t_sl__3_sl_int : TypeId := 123
abbrev t_3_sl_int : TypeId := 126
abbrev t_sl_uint64 : TypeId := 128
abbrev t_hotplug_extension : TypeId := 130
abbrev t_sl_sl_api_Assignment : TypeId := 134
abbrev t_hotplug_Slot : TypeId := 141
abbrev t_map_enumerate_place_bool : TypeId := 144
abbrev t_enumerate_place : TypeId := 147
abbrev t_sl_sl_api_Range : TypeId := 148
abbrev t_slices_sortedHint : TypeId := 181
abbrev t_slices_xorshift : TypeId := 194
abbrev t_p_int : TypeId := 198
abbrev t_p_api_Range : TypeId := 200
abbrev t_p_slices_xorshift : TypeId := 201
abbrev t_runtime_TypeAssertionError : TypeId := 207
abbrev t_0_p_runtime_PanicNilError : TypeId := 208
abbrev t_runtime_PanicNilError : TypeId := 210
abbrev t_abi_TFlag : TypeId := 211
abbrev t_abi_Kind : TypeId := 212
abbrev t_p_uint8 : TypeId := 214
abbrev t_abi_NameOff : TypeId := 215
abbrev t_abi_TypeOff : TypeId := 216
abbrev t_abi_Type : TypeId := 218
abbrev t_unsafe_Pointer : TypeId := 219
def cstr_0 : ByteArray := ⟨#[0, 1, 2, 2, 3, 3, 3, 3, 4, 4, 4, 4, 4, 4, 4, 4, 5, 5, 5, 5, 5, 5, 5, 5, 5, 5, 5, 5, 5, 5, 5, 5, 6, 6, 6, 6, 6, 6, 6, 6, 6, 6, 6, 6, 6, 6, 6, 6, 6, 6, 6, 6, 6, 6, 6, 6, 6, 6, 6, 6, 6, 6, 6, 6, 7, 7, 7, 7, 7, 7, 7, 7, 7, 7, 7, 7, 7, 7, 7, 7, 7, 7, 7, 7, 7, 7, 7, 7, 7, 7, 7, 7, 7, 7, 7, 7, 7, 7, 7, 7, 7, 7, 7, 7, 7, 7, 7, 7, 7, 7, 7, 7, 7, 7, 7, 7, 7, 7, 7, 7, 7, 7, 7, 7, 7, 7, 7, 7, 8, 8, 8, 8, 8, 8, 8, 8, 8, 8, 8, 8, 8, 8, 8, 8, 8, 8, 8, 8, 8, 8, 8, 8, 8, 8, 8, 8, 8, 8, 8, 8, 8, 8, 8, 8, 8, 8, 8, 8, 8, 8, 8, 8, 8, 8, 8, 8, 8, 8, 8, 8, 8, 8, 8, 8, 8, 8, 8, 8, 8, 8, 8, 8, 8, 8, 8, 8, 8, 8, 8, 8, 8, 8, 8, 8, 8, 8, 8, 8, 8, 8, 8, 8, 8, 8, 8, 8, 8, 8, 8, 8, 8, 8, 8, 8, 8, 8, 8, 8, 8, 8, 8, 8, 8, 8, 8, 8, 8, 8, 8, 8, 8, 8, 8, 8, 8, 8, 8, 8, 8, 8, 8, 8, 8, 8, 8, 8]⟩
def F_law23_HotplugPlanIsCorrect_k1 (x17 : Sl) (I_1 : Int → Bool → Int → P%) (M_1 : Int → Bool → Int → M%) (base : Int) (found : Bool) (k : Int) (H13 : Heap) (x51 : Bool) (H14 : Heap) : Prop :=
 iteB x51 (
 x% k x17 a4 ((
 u% base1 H14 ((a4.add (k.toNat * 5)).add 4), (
 v% k1 (W% (k + (1 : Int))) (
 I_1 base1 true k1 H14 ∧ M_1 base1 true k1 H14 < M_1 base found k H13))))) (
 v% k2 (W% (k + (1 : Int))) (
 I_1 base found k2 H14 ∧ M_1 base found k2 H14 < M_1 base found k H13))
def F_law23_HotplugPlanIsCorrect_k2 (x32 : Sl) (I_2 : Int → Bool → Int → P%) (M_2 : Int → Bool → Int → M%) (base2 : Int) (found1 : Bool) (k3 : Int) (H15 : Heap) (x57 : Bool) (H16 : Heap) : Prop :=
 iteB x57 (
 x% k3 x32 a10 ((
 u% base3 H16 ((a10.add (k3.toNat * 4)).add 3), (
 v% k4 (W% (k3 + (1 : Int))) (
 I_2 base3 true k4 H16 ∧ M_2 base3 true k4 H16 < M_2 base2 found1 k3 H15))))) (
 v% k5 (W% (k3 + (1 : Int))) (
 I_2 base2 found1 k5 H16 ∧ M_2 base2 found1 k5 H16 < M_2 base2 found1 k3 H15))
def F_law23_HotplugPlanIsCorrect_r3 (R : V%) (x31 x32 : Sl) (I_ : Int → P%) (M_ : Int → M%) (i : Int) (H12 : Heap) (I_2 : Int → Bool → Int → P%) (M_2 : Int → Bool → Int → M%) (base2 : Int) (found1 : Bool) (k3 : Int) (H15 : Heap) : Prop :=
 iteB (decide (k3 < (x32.n : Int))) (
 ∃ J_2 : Bool → P%, (
 x% k3 x32 a5 ((
 i% x52 H15 (a5.add (k3.toNat * 4)), (
 iteB (x52 == (2 : Int)) (
 x% k3 x32 a6 ((
 i% x53 H15 ((a6.add (k3.toNat * 4)).add 1), (
 x% i x31 a7 ((
 i% x54 H15 (a7.add (i.toNat * 5)), (
 iteB (x53 == x54) (
 x% k3 x32 a8 ((
 i% x55 H15 ((a8.add (k3.toNat * 4)).add 2), (
 x% i x31 a9 ((
 i% x56 H15 ((a9.add (i.toNat * 5)).add 1), (
 J_2 (x55 == x56) H15))))))) (
 J_2 false H15)))))))) (
 J_2 false H15))))) ∧ (∀ x57 : Bool, ∀ H16 : Heap, J_2 x57 H16 → F_law23_HotplugPlanIsCorrect_k2 x32 I_2 M_2 base2 found1 k3 H15 x57 H16)) (
 iteB (!found1) (
 R (.bool false) H15) (
 x% i x31 a11 ((
 u% x58 H15 ((a11.add (i.toNat * 5)).add 4), (
 iteB (base2 != x58) (
 R (.bool false) H15) (
 v% i1 (W% (i + (1 : Int))) (
 I_ i1 H15 ∧ M_ i1 H15 < M_ i H12)))))))
def F_law23_HotplugPlanIsCorrect_r4 (R : V%) (x17 x31 x32 : Sl) (I_ : Int → P%) (M_ : Int → M%) (i : Int) (H12 : Heap) (I_1 : Int → Bool → Int → P%) (M_1 : Int → Bool → Int → M%) (base : Int) (found : Bool) (k : Int) (H13 : Heap) : Prop :=
 iteB (decide (k < (x17.n : Int))) (
 ∃ J_1 : Bool → P%, (
 x% k x17 a ((
 i% x47 H13 (a.add (k.toNat * 5)), (
 x% i x31 a1 ((
 i% x48 H13 (a1.add (i.toNat * 5)), (
 iteB (x47 == x48) (
 x% k x17 a2 ((
 i% x49 H13 ((a2.add (k.toNat * 5)).add 1), (
 x% i x31 a3 ((
 i% x50 H13 ((a3.add (i.toNat * 5)).add 1), (
 J_1 (x49 == x50) H13))))))) (
 J_1 false H13)))))))) ∧ (∀ x51 : Bool, ∀ H14 : Heap, J_1 x51 H14 → F_law23_HotplugPlanIsCorrect_k1 x17 I_1 M_1 base found k H13 x51 H14)) (
 ∃ I_2 : Int → Bool → Int → P%, ∃ M_2 : Int → Bool → Int → M%, I_2 base found (0 : Int) H13 ∧ (∀ base2 : Int, ∀ found1 : Bool, ∀ k3 : Int, ∀ H15 : Heap, I_2 base2 found1 k3 H15 → F_law23_HotplugPlanIsCorrect_r3 R x31 x32 I_ M_ i H12 I_2 M_2 base2 found1 k3 H15))
def F_law23_HotplugPlanIsCorrect_r5 (R : V%) (x17 x31 x32 : Sl) (I_ : Int → P%) (M_ : Int → M%) (i : Int) (H12 : Heap) : Prop :=
 iteB (decide (i < (x31.n : Int))) (
 ∃ I_1 : Int → Bool → Int → P%, ∃ M_1 : Int → Bool → Int → M%, I_1 (0 : Int) false (0 : Int) H12 ∧ (∀ base : Int, ∀ found : Bool, ∀ k : Int, ∀ H13 : Heap, I_1 base found k H13 → F_law23_HotplugPlanIsCorrect_r4 R x17 x31 x32 I_ M_ i H12 I_1 M_1 base found k H13)) (
 R (.bool true) H12)
def F_law23_HotplugPlanIsCorrect_k6 (R : V%) (H2 : Heap) (x8 x17 : Sl) (x18 : Int) (x21 : Bool) (H6 : Heap) : Prop :=
 iteB x21 (
 CallsH Tryz.prog n_law23_awake #[] H6 (fun v2 H7 =>
 ∃ x22 : Bool, v2 = .bool x22 ∧ (
 R (.bool x22) H7))) (
 j% x23 x24 x25 x26 x27 x28 x29 x30 H6 &%H2, (
 CallsH Tryz.prog n_hotplug_Plan #[S%x8, (g% x23 x24 x25 x26 x27 x28 x29 x30), S%x17, I%x18] H6 (fun v3 H8 =>
 ∃ x31 x32 : Sl, ∃ x33 x34 : Int, ∃ x35 x36 x37 : Int, v3 = .tuple #[S%x31, S%x32, .agg #[I%x33, I%x34, U%x35, U%x36], I%x37] ∧ (
 h% H9 (H8.push (.cells #[Z%, Z%, U%(0 : Int), U%(0 : Int)] t_api_Certificate (0, 0))) (
 okRow H9 &%H8 4 ∧ (
 h% H10 (wrs H9 &%H8 [I%x33, I%x34, U%x35, U%x36]) (
 iteB (x37 != (0 : Int)) (
 iteB (x37 == (19 : Int)) (
 R (.bool true) H10) (
 R (.bool (x37 == (11 : Int))) H10)) (
 j% x38 x39 x40 x41 x42 x43 x44 x45 H10 &%H2, (
 CallsH Tryz.prog n_allocate_Check #[S%x8, (g% x38 x39 x40 x41 x42 x43 x44 x45), S%x31] H10 (fun v4 H11 =>
 ∃ x46 : Bool, v4 = .bool x46 ∧ (
 iteB (!x46) (
 R (.bool false) H11) (
 ∃ I_ : Int → P%, ∃ M_ : Int → M%, I_ (0 : Int) H11 ∧ (∀ i : Int, ∀ H12 : Heap, I_ i H12 → F_law23_HotplugPlanIsCorrect_r5 R x17 x31 x32 I_ M_ i H12)))))))))))))
def F_law23_HotplugPlanIsCorrect (R : V%) (l c : Sl) (h_0 : Int) (h_1 h_2 h_3 h_4 h_5 h_6 h_7 : Sl) (atv : Int) (H : Heap) : Prop :=
 h% H1 (H.push (.cells #[I%h_0, S%h_1, S%h_2, S%h_3, S%h_4, S%h_5, S%h_6, S%h_7] t_api_Host (0, 0))) (
 j% x x1 x2 x3 x4 x5 x6 x7 H1 &%H, (
 CallsH Tryz.prog n_law23_plugged #[S%l, S%c, (g% x x1 x2 x3 x4 x5 x6 x7), I%atv] H1 (fun v H2 =>
 ∃ x8 : Sl, ∃ x9 : Int, ∃ x10 x11 : Sl, ∃ x12 x13 : Sl, ∃ x14 x15 : Sl, ∃ x16 x17 : Sl, ∃ x18 : Int, ∃ x19 : Bool, v = .tuple #[S%x8, (g% x9 x10 x11 x12 x13 x14 x15 x16), S%x17, I%x18, .bool x19] ∧ (
 h% H3 (H2.push (.cells #[Z%, N%, N%, N%, N%, N%, N%, N%] t_api_Host (0, 0))) (
 okRow H3 &%H2 8 ∧ (
 h% H4 (wrs H3 &%H2 [I%x9, S%x10, S%x11, S%x12, S%x13, S%x14, S%x15, S%x16]) (
 ∃ J_ : Bool → P%, (
 CallsH Tryz.prog n_law23_awake #[] H4 (fun v1 H5 =>
 ∃ x20 : Bool, v1 = .bool x20 ∧ (
 iteB (!x20) (
 J_ true H5) (
 J_ (!x19) H5)))) ∧ (∀ x21 : Bool, ∀ H6 : Heap, J_ x21 H6 → F_law23_HotplugPlanIsCorrect_k6 R H2 x8 x17 x18 x21 H6))))))))
theorem F_law23_HotplugPlanIsCorrect_ok {R : V%} (l c : Sl) (h_0 : Int) (h_1 h_2 h_3 h_4 h_5 h_6 h_7 : Sl) (atv : Int) {H : Heap} (h : F_law23_HotplugPlanIsCorrect R l c h_0 h_1 h_2 h_3 h_4 h_5 h_6 h_7 atv H) : CallsH Tryz.prog n_law23_HotplugPlanIsCorrect #[S%l, S%c, (g% h_0 h_1 h_2 h_3 h_4 h_5 h_6 h_7), I%atv] H R := wpF_ok Tryz.func4 (show wpF Tryz.prog Tryz.f4 [(18, I%0), (19, U%0), (20, .bool false), (21, I%0), (22, I%0), (39, .bool false), (103, .bool false), (148, .bool false)] [(3, [39], [9, 10, 11, 12]), (17, [103], [11, 14, 15, 18, 19, 20, 21]), (22, [148], [11, 14, 15, 18, 19, 20, 22])] [(10, [18], [11, 14, 15]), (14, [19, 20, 21], [11, 14, 15, 18]), (19, [19, 20, 22], [11, 14, 15, 18])] [9] _ H R = F_law23_HotplugPlanIsCorrect R l c h_0 h_1 h_2 h_3 h_4 h_5 h_6 h_7 atv H by kernel_rfl) h
def F_law23_HotplugDriversAreStopped_r1 (R : V%) (x8 : Sl) (x18 : Int) (H10 H11 : Heap) (I_2 : Int → P%) (M_2 : Int → M%) (i6 : Int) (H19 : Heap) : Prop :=
 iteB (decide (i6 < (x8.n : Int))) (
 0 ≤ i6 ∧ i6 < (((x8.n : Int).toNat : Nat) : Int) ∧ (b% x43 H19 ((&%H10).add (i6.toNat * 1)), (
 iteB (!x43) (
 R (.bool false) H19) (
 iteB (decide (i6 ≥ x18)) (
 0 ≤ i6 ∧ i6 < (((x8.n : Int).toNat : Nat) : Int) ∧ (i% x44 H19 ((&%H11).add (i6.toNat * 1)), (
 iteB (x44 != (1 : Int)) (
 R (.bool false) H19) (
 v% i7 (W% (i6 + (1 : Int))) (
 I_2 i7 H19 ∧ M_2 i7 H19 < M_2 i6 H19))))) (
 v% i8 (W% (i6 + (1 : Int))) (
 I_2 i8 H19 ∧ M_2 i8 H19 < M_2 i6 H19)))))) (
 R (.bool true) H19)
def F_law23_HotplugDriversAreStopped_r2 (R : V%) (x8 : Sl) (x18 : Int) (x32 : Sl) (H10 H11 : Heap) (I_1 : Int → P%) (M_1 : Int → M%) (i2 : Int) (H15 : Heap) : Prop :=
 iteB (decide (i2 < (x32.n : Int))) (
 x% i2 x32 a ((
 i% f H15 ((a.add (i2.toNat * 4)).add 1), (
 iteB (decide (f < (0 : Int))) (
 R (.bool false) H15) (
 iteB (decide (f ≥ (x8.n : Int))) (
 R (.bool false) H15) (
 x% i2 x32 a1 ((
 i% x38 H15 (a1.add (i2.toNat * 4)), (
 iteB (x38 == (1 : Int)) (
 0 ≤ f ∧ f < (((x8.n : Int).toNat : Nat) : Int) ∧ (b% x39 H15 ((&%H10).add (f.toNat * 1)), (
 iteB (!x39) (
 R (.bool false) H15) (
 iteB (decide (f ≥ x18)) (
 R (.bool false) H15) (
 0 ≤ f ∧ f < (((x8.n : Int).toNat : Nat) : Int) ∧ (okRow H15 ((&%H10).add (f.toNat * 1)) 1 ∧ (
 h% H16 (wrs H15 ((&%H10).add (f.toNat * 1)) [.bool false]) (
 v% i3 (W% (i2 + (1 : Int))) (
 I_1 i3 H16 ∧ M_1 i3 H16 < M_1 i2 H15))))))))) (
 iteB (x38 == (2 : Int)) (
 0 ≤ f ∧ f < (((x8.n : Int).toNat : Nat) : Int) ∧ (b% x40 H15 ((&%H10).add (f.toNat * 1)), (
 iteB x40 (
 R (.bool false) H15) (
 v% i4 (W% (i2 + (1 : Int))) (
 I_1 i4 H15 ∧ M_1 i4 H15 < M_1 i2 H15))))) (
 iteB (x38 == (3 : Int)) (
 0 ≤ f ∧ f < (((x8.n : Int).toNat : Nat) : Int) ∧ (b% x41 H15 ((&%H10).add (f.toNat * 1)), (
 iteB x41 (
 R (.bool false) H15) (
 0 ≤ f ∧ f < (((x8.n : Int).toNat : Nat) : Int) ∧ (okRow H15 ((&%H10).add (f.toNat * 1)) 1 ∧ (
 h% H17 (wrs H15 ((&%H10).add (f.toNat * 1)) [.bool true]) (
 0 ≤ f ∧ f < (((x8.n : Int).toNat : Nat) : Int) ∧ (i% x42 H17 ((&%H11).add (f.toNat * 1)), (
 0 ≤ f ∧ f < (((x8.n : Int).toNat : Nat) : Int) ∧ (okRow H17 ((&%H11).add (f.toNat * 1)) 1 ∧ (
 h% H18 (wrs H17 ((&%H11).add (f.toNat * 1)) [I%(W% (x42 + (1 : Int)))]) (
 v% i5 (W% (i2 + (1 : Int))) (
 I_1 i5 H18 ∧ M_1 i5 H18 < M_1 i2 H15))))))))))))) (
 R (.bool false) H15)))))))))))) (
 ∃ I_2 : Int → P%, ∃ M_2 : Int → M%, I_2 (0 : Int) H15 ∧ (∀ i6 : Int, ∀ H19 : Heap, I_2 i6 H19 → F_law23_HotplugDriversAreStopped_r1 R x8 x18 H10 H11 I_2 M_2 i6 H19))
def F_law23_HotplugDriversAreStopped_r3 (R : V%) (x8 : Sl) (x18 : Int) (x32 : Sl) (H10 H11 : Heap) (I_ : Int → P%) (M_ : Int → M%) (i : Int) (H13 : Heap) : Prop :=
 iteB (decide (i < x18)) (
 0 ≤ i ∧ i < (((x8.n : Int).toNat : Nat) : Int) ∧ (okRow H13 ((&%H10).add (i.toNat * 1)) 1 ∧ (
 h% H14 (wrs H13 ((&%H10).add (i.toNat * 1)) [.bool true]) (
 v% i1 (W% (i + (1 : Int))) (
 I_ i1 H14 ∧ M_ i1 H14 < M_ i H13))))) (
 ∃ I_1 : Int → P%, ∃ M_1 : Int → M%, I_1 (0 : Int) H13 ∧ (∀ i2 : Int, ∀ H15 : Heap, I_1 i2 H15 → F_law23_HotplugDriversAreStopped_r2 R x8 x18 x32 H10 H11 I_1 M_1 i2 H15))
def F_law23_HotplugDriversAreStopped_k4 (R : V%) (H2 : Heap) (x8 x17 : Sl) (x18 : Int) (x21 : Bool) (H6 : Heap) : Prop :=
 iteB x21 (
 CallsH Tryz.prog n_law23_awake #[] H6 (fun v2 H7 =>
 ∃ x22 : Bool, v2 = .bool x22 ∧ (
 R (.bool x22) H7))) (
 j% x23 x24 x25 x26 x27 x28 x29 x30 H6 &%H2, (
 CallsH Tryz.prog n_hotplug_Plan #[S%x8, (g% x23 x24 x25 x26 x27 x28 x29 x30), S%x17, I%x18] H6 (fun v3 H8 =>
 ∃ x31 x32 : Sl, ∃ x33 x34 : Int, ∃ x35 x36 x37 : Int, v3 = .tuple #[S%x31, S%x32, .agg #[I%x33, I%x34, U%x35, U%x36], I%x37] ∧ (
 h% H9 (H8.push (.cells #[Z%, Z%, U%(0 : Int), U%(0 : Int)] t_api_Certificate (0, 0))) (
 okRow H9 &%H8 4 ∧ (
 h% H10 (wrs H9 &%H8 [I%x33, I%x34, U%x35, U%x36]) (
 iteB (x37 != (0 : Int)) (
 R (.bool ((x32.n : Int) == (0 : Int))) H10) (
 0 ≤ (x8.n : Int) ∧ (x8.n : Int) ≤ (x8.n : Int) ∧ (x8.n : Int) * ((1 : Nat) : Int) ≤ 281474976710656 ∧ (
 h% H11 (H10.push (.cells (zeroRow (.bool false) (x8.n : Int).toNat) t_bool (0, 0))) (
 0 ≤ (x8.n : Int) ∧ (x8.n : Int) ≤ (x8.n : Int) ∧ (x8.n : Int) * ((8 : Nat) : Int) ≤ 281474976710656 ∧ (
 h% H12 (H11.push (.cells (zeroRow (Z%) (x8.n : Int).toNat) t_int (0, 0))) (
 ∃ I_ : Int → P%, ∃ M_ : Int → M%, I_ (0 : Int) H12 ∧ (∀ i : Int, ∀ H13 : Heap, I_ i H13 → F_law23_HotplugDriversAreStopped_r3 R x8 x18 x32 H10 H11 I_ M_ i H13)))))))))))))
def F_law23_HotplugDriversAreStopped (R : V%) (l c : Sl) (h_0 : Int) (h_1 h_2 h_3 h_4 h_5 h_6 h_7 : Sl) (atv : Int) (H : Heap) : Prop :=
 h% H1 (H.push (.cells #[I%h_0, S%h_1, S%h_2, S%h_3, S%h_4, S%h_5, S%h_6, S%h_7] t_api_Host (0, 0))) (
 j% x x1 x2 x3 x4 x5 x6 x7 H1 &%H, (
 CallsH Tryz.prog n_law23_plugged #[S%l, S%c, (g% x x1 x2 x3 x4 x5 x6 x7), I%atv] H1 (fun v H2 =>
 ∃ x8 : Sl, ∃ x9 : Int, ∃ x10 x11 : Sl, ∃ x12 x13 : Sl, ∃ x14 x15 : Sl, ∃ x16 x17 : Sl, ∃ x18 : Int, ∃ x19 : Bool, v = .tuple #[S%x8, (g% x9 x10 x11 x12 x13 x14 x15 x16), S%x17, I%x18, .bool x19] ∧ (
 h% H3 (H2.push (.cells #[Z%, N%, N%, N%, N%, N%, N%, N%] t_api_Host (0, 0))) (
 okRow H3 &%H2 8 ∧ (
 h% H4 (wrs H3 &%H2 [I%x9, S%x10, S%x11, S%x12, S%x13, S%x14, S%x15, S%x16]) (
 ∃ J_ : Bool → P%, (
 CallsH Tryz.prog n_law23_awake #[] H4 (fun v1 H5 =>
 ∃ x20 : Bool, v1 = .bool x20 ∧ (
 iteB (!x20) (
 J_ true H5) (
 J_ (!x19) H5)))) ∧ (∀ x21 : Bool, ∀ H6 : Heap, J_ x21 H6 → F_law23_HotplugDriversAreStopped_k4 R H2 x8 x17 x18 x21 H6))))))))
theorem F_law23_HotplugDriversAreStopped_ok {R : V%} (l c : Sl) (h_0 : Int) (h_1 h_2 h_3 h_4 h_5 h_6 h_7 : Sl) (atv : Int) {H : Heap} (h : F_law23_HotplugDriversAreStopped R l c h_0 h_1 h_2 h_3 h_4 h_5 h_6 h_7 atv H) : CallsH Tryz.prog n_law23_HotplugDriversAreStopped #[S%l, S%c, (g% h_0 h_1 h_2 h_3 h_4 h_5 h_6 h_7), I%atv] H R := wpF_ok Tryz.func5 (show wpF Tryz.prog Tryz.f5 [(20, I%0), (21, I%0), (23, I%0), (40, .bool false)] [(3, [40], [9, 10, 11, 12])] [(10, [20], [9, 12, 15, 18, 19]), (14, [21], [9, 12, 15, 18, 19]), (34, [23], [9, 12, 18, 19])] [9] _ H R = F_law23_HotplugDriversAreStopped R l c h_0 h_1 h_2 h_3 h_4 h_5 h_6 h_7 atv H by kernel_rfl) h
def F_law23_HotplugSpareSuffices_r1 (R : V%) (x17 x24 : Sl) (I_1 : Int → P%) (M_1 : Int → M%) (i2 : Int) (H10 : Heap) (I_2 : Bool → Int → P%) (M_2 : Bool → Int → M%) (same : Bool) (k : Int) (H11 : Heap) : Prop :=
 iteB (decide (k < (x24.n : Int))) (
 iteB same (
 v% k1 (W% (k + (1 : Int))) (
 I_2 true k1 H11 ∧ M_2 true k1 H11 < M_2 same k H11)) (
 x% k x24 a1 ((
 i% x27 H11 (a1.add (k.toNat * 4)), i% x28 H11 ((a1.add (k.toNat * 4)).add 1), i% x29 H11 ((a1.add (k.toNat * 4)).add 2), i% x30 H11 ((a1.add (k.toNat * 4)).add 3), (
 x% i2 x17 a2 ((
 i% x31 H11 (a2.add (i2.toNat * 5)), i% x32 H11 ((a2.add (i2.toNat * 5)).add 1), i% x33 H11 ((a2.add (i2.toNat * 5)).add 2), i% x34 H11 ((a2.add (i2.toNat * 5)).add 3), (
 v% k2 (W% (k + (1 : Int))) (
 I_2 ((x27 == x31) && ((x28 == x32) && ((x29 == x33) && ((x30 == x34) && true)))) k2 H11 ∧ M_2 ((x27 == x31) && ((x28 == x32) && ((x29 == x33) && ((x30 == x34) && true)))) k2 H11 < M_2 same k H11))))))))) (
 iteB (!same) (
 R (.bool true) H11) (
 v% i3 (W% (i2 + (1 : Int))) (
 I_1 i3 H11 ∧ M_1 i3 H11 < M_1 i2 H10)))
def F_law23_HotplugSpareSuffices_r2 (R : V%) (x44 : Sl) (I_3 : Int → P%) (M_3 : Int → M%) (i4 : Int) (H15 : Heap) : Prop :=
 iteB (decide (i4 < (x44.n : Int))) (
 x% i4 x44 a3 ((
 i% x50 H15 (a3.add (i4.toNat * 4)), (
 iteB (x50 == (1 : Int)) (
 R (.bool false) H15) (
 v% i5 (W% (i4 + (1 : Int))) (
 I_3 i5 H15 ∧ M_3 i5 H15 < M_3 i4 H15)))))) (
 R (.bool true) H15)
def F_law23_HotplugSpareSuffices_r3 (R : V%) (H2 : Heap) (x8 x17 : Sl) (x18 : Int) (x24 : Sl) (I_1 : Int → P%) (M_1 : Int → M%) (i2 : Int) (H10 : Heap) : Prop :=
 iteB (decide (i2 < (x17.n : Int))) (
 ∃ I_2 : Bool → Int → P%, ∃ M_2 : Bool → Int → M%, I_2 false (0 : Int) H10 ∧ (∀ same : Bool, ∀ k : Int, ∀ H11 : Heap, I_2 same k H11 → F_law23_HotplugSpareSuffices_r1 R x17 x24 I_1 M_1 i2 H10 I_2 M_2 same k H11)) (
 j% x35 x36 x37 x38 x39 x40 x41 x42 H10 &%H2, (
 CallsH Tryz.prog n_hotplug_Plan #[S%x8, (g% x35 x36 x37 x38 x39 x40 x41 x42), S%x17, I%x18] H10 (fun v4 H12 =>
 ∃ x43 x44 : Sl, ∃ x45 x46 : Int, ∃ x47 x48 x49 : Int, v4 = .tuple #[S%x43, S%x44, .agg #[I%x45, I%x46, U%x47, U%x48], I%x49] ∧ (
 h% H13 (H12.push (.cells #[Z%, Z%, U%(0 : Int), U%(0 : Int)] t_api_Certificate (0, 0))) (
 okRow H13 &%H12 4 ∧ (
 h% H14 (wrs H13 &%H12 [I%x45, I%x46, U%x47, U%x48]) (
 iteB (x49 != (0 : Int)) (
 R (.bool false) H14) (
 ∃ I_3 : Int → P%, ∃ M_3 : Int → M%, I_3 (0 : Int) H14 ∧ (∀ i4 : Int, ∀ H15 : Heap, I_3 i4 H15 → F_law23_HotplugSpareSuffices_r2 R x44 I_3 M_3 i4 H15)))))))))
def F_law23_HotplugSpareSuffices_r4 (R : V%) (H2 : Heap) (x8 x17 : Sl) (x18 : Int) (x24 : Sl) (I_ : Int → P%) (M_ : Int → M%) (i : Int) (H9 : Heap) : Prop :=
 iteB (decide (i < (x8.n : Int))) (
 x% i x8 a ((
 b% x26 H9 ((a.add (i.toNat * 11)).add 4), (
 iteB x26 (
 R (.bool true) H9) (
 v% i1 (W% (i + (1 : Int))) (
 I_ i1 H9 ∧ M_ i1 H9 < M_ i H9)))))) (
 ∃ I_1 : Int → P%, ∃ M_1 : Int → M%, I_1 (0 : Int) H9 ∧ (∀ i2 : Int, ∀ H10 : Heap, I_1 i2 H10 → F_law23_HotplugSpareSuffices_r3 R H2 x8 x17 x18 x24 I_1 M_1 i2 H10))
def F_law23_HotplugSpareSuffices_k5 (R : V%) (H2 : Heap) (x8 x17 : Sl) (x18 : Int) (x21 : Bool) (H6 : Heap) : Prop :=
 iteB x21 (
 CallsH Tryz.prog n_law23_awake #[] H6 (fun v2 H7 =>
 ∃ x22 : Bool, v2 = .bool x22 ∧ (
 R (.bool x22) H7))) (
 s% x23 H6 (+%H2 3), (
 CallsH Tryz.prog n_ref18_Needs #[S%x8, .bool (decide ((x23.n : Int) > (0 : Int)))] H6 (fun v3 H8 =>
 ∃ x24 : Sl, ∃ x25 : Int, v3 = .tuple #[S%x24, I%x25] ∧ (
 iteB (x25 != (0 : Int)) (
 R (.bool true) H8) (
 ∃ I_ : Int → P%, ∃ M_ : Int → M%, I_ x18 H8 ∧ (∀ i : Int, ∀ H9 : Heap, I_ i H9 → F_law23_HotplugSpareSuffices_r4 R H2 x8 x17 x18 x24 I_ M_ i H9))))))
def F_law23_HotplugSpareSuffices (R : V%) (l c : Sl) (h_0 : Int) (h_1 h_2 h_3 h_4 h_5 h_6 h_7 : Sl) (atv : Int) (H : Heap) : Prop :=
 h% H1 (H.push (.cells #[I%h_0, S%h_1, S%h_2, S%h_3, S%h_4, S%h_5, S%h_6, S%h_7] t_api_Host (0, 0))) (
 j% x x1 x2 x3 x4 x5 x6 x7 H1 &%H, (
 CallsH Tryz.prog n_law23_plugged #[S%l, S%c, (g% x x1 x2 x3 x4 x5 x6 x7), I%atv] H1 (fun v H2 =>
 ∃ x8 : Sl, ∃ x9 : Int, ∃ x10 x11 : Sl, ∃ x12 x13 : Sl, ∃ x14 x15 : Sl, ∃ x16 x17 : Sl, ∃ x18 : Int, ∃ x19 : Bool, v = .tuple #[S%x8, (g% x9 x10 x11 x12 x13 x14 x15 x16), S%x17, I%x18, .bool x19] ∧ (
 h% H3 (H2.push (.cells #[Z%, N%, N%, N%, N%, N%, N%, N%] t_api_Host (0, 0))) (
 okRow H3 &%H2 8 ∧ (
 h% H4 (wrs H3 &%H2 [I%x9, S%x10, S%x11, S%x12, S%x13, S%x14, S%x15, S%x16]) (
 ∃ J_ : Bool → P%, (
 CallsH Tryz.prog n_law23_awake #[] H4 (fun v1 H5 =>
 ∃ x20 : Bool, v1 = .bool x20 ∧ (
 iteB (!x20) (
 J_ true H5) (
 J_ (!x19) H5)))) ∧ (∀ x21 : Bool, ∀ H6 : Heap, J_ x21 H6 → F_law23_HotplugSpareSuffices_k5 R H2 x8 x17 x18 x21 H6))))))))
theorem F_law23_HotplugSpareSuffices_ok {R : V%} (l c : Sl) (h_0 : Int) (h_1 h_2 h_3 h_4 h_5 h_6 h_7 : Sl) (atv : Int) {H : Heap} (h : F_law23_HotplugSpareSuffices R l c h_0 h_1 h_2 h_3 h_4 h_5 h_6 h_7 atv H) : CallsH Tryz.prog n_law23_HotplugSpareSuffices #[S%l, S%c, (g% h_0 h_1 h_2 h_3 h_4 h_5 h_6 h_7), I%atv] H R := wpF_ok Tryz.func6 (show wpF Tryz.prog Tryz.f6 [(16, I%0), (17, I%0), (18, .bool false), (19, I%0), (24, I%0), (41, .bool false)] [(3, [41], [9, 10, 11, 12])] [(8, [16], [9, 10, 11, 12, 14]), (13, [17], [9, 10, 11, 12, 14]), (17, [18, 19], [9, 10, 11, 12, 14, 17]), (26, [24], [21])] [9] _ H R = F_law23_HotplugSpareSuffices R l c h_0 h_1 h_2 h_3 h_4 h_5 h_6 h_7 atv H by kernel_rfl) h
def F_law23_HotplugRefusalsAreJustified_r1 (R : V%) (H2 H8 : Heap) (x31 x32 below : Sl) (I_ : Sl → Int → P%) (M_ : Sl → Int → M%) (items : Sl) (i : Int) (H13 : Heap) : Prop :=
 iteB (decide (i < (below.n : Int))) (
 x% i below a ((
 i% x42 H13 ((a.add (i.toNat * 4)).add 3), (
 h% H14 (H13.push (.cells #[I%x42] t_int (0, 0))) (
 runH Tryz.prog (Builtin.append_ #[t_sl_int, t_sl_int] t_sl_int #[S%items, .slice (some &%H13) 1 1]) H14 (fun v6 H15 =>
 ∃ items1 : Sl, v6 = S%items1 ∧ (
 v% i1 (W% (i + (1 : Int))) (
 I_ items1 i1 H15 ∧ M_ items1 i1 H15 < M_ items i H13)))))))) (
 iteB ((x31.n : Int) == (0 : Int)) (
 iteB ((x32.n : Int) == (0 : Int)) (
 j% x43 x44 x45 x46 x47 x48 x49 x50 H13 &%H2, (
 i% x51 H13 &%H8, (
 i% x52 H13 &%H8, i% x53 H13 (+%H8 1), u% x54 H13 (+%H8 2), u% x55 H13 (+%H8 3), (
 CallsH Tryz.prog n_ref21_Space #[(g% x43 x44 x45 x46 x47 x48 x49 x50), I%x51] H13 (fun v7 H16 =>
 ∃ x56 : Sl, v7 = S%x56 ∧ (
 Keeps H13 H16 [(&%H8, 4)] ∧ (
 CallsH Tryz.prog n_allocate_Refutes #[S%x56, S%items, .agg #[I%x52, I%x53, U%x54, U%x55]] H16 (fun v8 H17 =>
 ∃ x57 : Bool, v8 = .bool x57 ∧ (
 R (.bool x57) H17))))))))) (
 R (.bool false) H13)) (
 R (.bool false) H13))
def F_law23_HotplugRefusalsAreJustified_k2 (R : V%) (H2 : Heap) (x8 x17 : Sl) (x18 : Int) (x21 : Bool) (H6 : Heap) : Prop :=
 iteB x21 (
 CallsH Tryz.prog n_law23_awake #[] H6 (fun v2 H7 =>
 ∃ x22 : Bool, v2 = .bool x22 ∧ (
 R (.bool x22) H7))) (
 j% x23 x24 x25 x26 x27 x28 x29 x30 H6 &%H2, (
 CallsH Tryz.prog n_hotplug_Plan #[S%x8, (g% x23 x24 x25 x26 x27 x28 x29 x30), S%x17, I%x18] H6 (fun v3 H8 =>
 ∃ x31 x32 : Sl, ∃ x33 x34 : Int, ∃ x35 x36 x37 : Int, v3 = .tuple #[S%x31, S%x32, .agg #[I%x33, I%x34, U%x35, U%x36], I%x37] ∧ (
 h% H9 (H8.push (.cells #[Z%, Z%, U%(0 : Int), U%(0 : Int)] t_api_Certificate (0, 0))) (
 okRow H9 &%H8 4 ∧ (
 h% H10 (wrs H9 &%H8 [I%x33, I%x34, U%x35, U%x36]) (
 iteB (x37 != (19 : Int)) (
 R (.bool true) H10) (
 s% x38 H10 (+%H2 3), (
 CallsH Tryz.prog n_ref18_Needs #[S%x8, .bool (decide ((x38.n : Int) > (0 : Int)))] H10 (fun v4 H11 =>
 ∃ x39 : Sl, ∃ x40 : Int, v4 = .tuple #[S%x39, I%x40] ∧ (
 i% x41 H11 &%H8, (
 CallsH Tryz.prog n_ref18_NeedsBelow #[S%x8, S%x39, I%(-1 : Int), I%x41] H11 (fun v5 H12 =>
 ∃ below : Sl, v5 = S%below ∧ (
 ∃ I_ : Sl → Int → P%, ∃ M_ : Sl → Int → M%, I_ (Sl.mk none 0 0) (0 : Int) H12 ∧ (∀ items : Sl, ∀ i : Int, ∀ H13 : Heap, I_ items i H13 → F_law23_HotplugRefusalsAreJustified_r1 R H2 H8 x31 x32 below I_ M_ items i H13)))))))))))))))
def F_law23_HotplugRefusalsAreJustified (R : V%) (l c : Sl) (h_0 : Int) (h_1 h_2 h_3 h_4 h_5 h_6 h_7 : Sl) (atv : Int) (H : Heap) : Prop :=
 h% H1 (H.push (.cells #[I%h_0, S%h_1, S%h_2, S%h_3, S%h_4, S%h_5, S%h_6, S%h_7] t_api_Host (0, 0))) (
 j% x x1 x2 x3 x4 x5 x6 x7 H1 &%H, (
 CallsH Tryz.prog n_law23_plugged #[S%l, S%c, (g% x x1 x2 x3 x4 x5 x6 x7), I%atv] H1 (fun v H2 =>
 ∃ x8 : Sl, ∃ x9 : Int, ∃ x10 x11 : Sl, ∃ x12 x13 : Sl, ∃ x14 x15 : Sl, ∃ x16 x17 : Sl, ∃ x18 : Int, ∃ x19 : Bool, v = .tuple #[S%x8, (g% x9 x10 x11 x12 x13 x14 x15 x16), S%x17, I%x18, .bool x19] ∧ (
 h% H3 (H2.push (.cells #[Z%, N%, N%, N%, N%, N%, N%, N%] t_api_Host (0, 0))) (
 okRow H3 &%H2 8 ∧ (
 h% H4 (wrs H3 &%H2 [I%x9, S%x10, S%x11, S%x12, S%x13, S%x14, S%x15, S%x16]) (
 ∃ J_ : Bool → P%, (
 CallsH Tryz.prog n_law23_awake #[] H4 (fun v1 H5 =>
 ∃ x20 : Bool, v1 = .bool x20 ∧ (
 iteB (!x20) (
 J_ true H5) (
 J_ (!x19) H5)))) ∧ (∀ x21 : Bool, ∀ H6 : Heap, J_ x21 H6 → F_law23_HotplugRefusalsAreJustified_k2 R H2 x8 x17 x18 x21 H6))))))))
theorem F_law23_HotplugRefusalsAreJustified_ok {R : V%} (l c : Sl) (h_0 : Int) (h_1 h_2 h_3 h_4 h_5 h_6 h_7 : Sl) (atv : Int) {H : Heap} (h : F_law23_HotplugRefusalsAreJustified R l c h_0 h_1 h_2 h_3 h_4 h_5 h_6 h_7 atv H) : CallsH Tryz.prog n_law23_HotplugRefusalsAreJustified #[S%l, S%c, (g% h_0 h_1 h_2 h_3 h_4 h_5 h_6 h_7), I%atv] H R := wpF_ok Tryz.func7 (show wpF Tryz.prog Tryz.f7 [(20, N%), (22, I%0), (39, .bool false)] [(3, [39], [9, 10, 11, 12])] [(11, [20, 22], [10, 14, 15, 16, 21])] [9] _ H R = F_law23_HotplugRefusalsAreJustified R l c h_0 h_1 h_2 h_3 h_4 h_5 h_6 h_7 atv H by kernel_rfl) h
def F_law23_plugged (R : V%) (l c : Sl) (h_0 : Int) (h_1 h_2 h_3 h_4 h_5 h_6 h_7 : Sl) (atv : Int) (H : Heap) : Prop :=
 h% H1 (H.push (.cells #[I%h_0, S%h_1, S%h_2, S%h_3, S%h_4, S%h_5, S%h_6, S%h_7] t_api_Host (0, 0))) (
 h% H2 (H1.push (.cells #[Z%, N%, N%, N%, N%, N%, N%, N%] t_api_Host (0, 0))) (
 j% x x1 x2 x3 x4 x5 x6 x7 H2 &%H, (
 (
 CallsH Tryz.prog n_gen_Topology #[S%l, I%(16 : Int)] H2 (fun v H3 =>
 ∃ t : Sl, v = S%t ∧ (
 Keeps H2 H3 [(&%H, 8)] ∧ (
 (
 CallsH Tryz.prog n_gen_Host #[(g% x x1 x2 x3 x4 x5 x6 x7)] H3 (fun v1 H4 =>
 ∃ x8 : Int, ∃ x9 x10 : Sl, ∃ x11 x12 : Sl, ∃ x13 x14 x15 : Sl, v1 = (g% x8 x9 x10 x11 x12 x13 x14 x15) ∧ (
 h% H5 (H4.push (.cells #[Z%, N%, N%, N%, N%, N%, N%, N%] t_api_Host (0, 0))) (
 Keeps H4 H5 [(&%H, 8)] ∧ (
 okRow H5 &%H4 8 ∧ (
 h% H6 (wrs H5 &%H4 [I%x8, S%x9, S%x10, S%x11, S%x12, S%x13, S%x14, S%x15]) (
 j% x16 x17 x18 x19 x20 x21 x22 x23 H6 &%H4, (
 CallsH Tryz.prog n_ref21_Assign #[S%t, (g% x16 x17 x18 x19 x20 x21 x22 x23)] H6 (fun v2 H7 =>
 ∃ x24 : Sl, ∃ x25 x26 : Int, ∃ x27 x28 x29 : Int, v2 = .tuple #[S%x24, .agg #[I%x25, I%x26, U%x27, U%x28], I%x29] ∧ (
 h% H8 (H7.push (.cells #[Z%, Z%, U%(0 : Int), U%(0 : Int)] t_api_Certificate (0, 0))) (
 okRow H8 &%H7 4 ∧ (
 h% H9 (wrs H8 &%H7 [I%x25, I%x26, U%x27, U%x28]) (
 iteB (x29 != (0 : Int)) (
 j% x30 x31 x32 x33 x34 x35 x36 x37 H9 &%H4, (
 okRow H9 &%H1 8 ∧ (
 h% H10 (wrs H9 &%H1 [I%x30, S%x31, S%x32, S%x33, S%x34, S%x35, S%x36, S%x37]) (
 j% r r1 r2 r3 r4 r5 r6 r7 H10 &%H1, (
 R (.tuple #[N%, (g% r r1 r2 r3 r4 r5 r6 r7), N%, Z%, .bool false]) H10))))) (
 CallsH Tryz.prog n_law23_port #[S%t, I%atv] H9 (fun v3 H11 =>
 ∃ x38 : Int, v3 = I%x38 ∧ (
 CallsH Tryz.prog n_law23_card #[S%c] H11 (fun v4 H12 =>
 ∃ x39 : Sl, v4 = S%x39 ∧ (
 CallsH Tryz.prog n_ref21_Add #[S%t, I%x38, S%x39] H12 (fun v5 H13 =>
 ∃ x40 : Sl, ∃ x41 : Int, v5 = .tuple #[S%x40, I%x41] ∧ (
 j% x42 x43 x44 x45 x46 x47 x48 x49 H13 &%H4, (
 okRow H13 &%H1 8 ∧ (
 h% H14 (wrs H13 &%H1 [I%x42, S%x43, S%x44, S%x45, S%x46, S%x47, S%x48, S%x49]) (
 j% r8 r9 r10 r11 r12 r13 r14 r15 H14 &%H1, (
 R (.tuple #[S%x40, (g% r8 r9 r10 r11 r12 r13 r14 r15), S%x24, I%(t.n : Int), .bool (x41 == (0 : Int))]) H14)))))))))))))))))))))))) ∧ (
 h% H15 (H3.push (.cells #[Z%, N%, N%, N%, N%, N%, N%, N%] t_api_Host (0, 0))) (
 Keeps H3 H15 [(&%H, 8)] ∧ (
 CallsH Tryz.prog n_gen_Host #[(g% x x1 x2 x3 x4 x5 x6 x7)] H15 (fun v6 H16 =>
 ∃ x50 : Int, ∃ x51 x52 : Sl, ∃ x53 x54 : Sl, ∃ x55 x56 x57 : Sl, v6 = (g% x50 x51 x52 x53 x54 x55 x56 x57) ∧ (
 okRow H16 &%H3 8 ∧ (
 h% H17 (wrs H16 &%H3 [I%x50, S%x51, S%x52, S%x53, S%x54, S%x55, S%x56, S%x57]) (
 j% x58 x59 x60 x61 x62 x63 x64 x65 H17 &%H3, (
 CallsH Tryz.prog n_ref21_Assign #[S%t, (g% x58 x59 x60 x61 x62 x63 x64 x65)] H17 (fun v7 H18 =>
 ∃ x66 : Sl, ∃ x67 x68 : Int, ∃ x69 x70 x71 : Int, v7 = .tuple #[S%x66, .agg #[I%x67, I%x68, U%x69, U%x70], I%x71] ∧ (
 h% H19 (H18.push (.cells #[Z%, Z%, U%(0 : Int), U%(0 : Int)] t_api_Certificate (0, 0))) (
 okRow H19 &%H18 4 ∧ (
 h% H20 (wrs H19 &%H18 [I%x67, I%x68, U%x69, U%x70]) (
 iteB (x71 != (0 : Int)) (
 j% x72 x73 x74 x75 x76 x77 x78 x79 H20 &%H3, (
 okRow H20 &%H1 8 ∧ (
 h% H21 (wrs H20 &%H1 [I%x72, S%x73, S%x74, S%x75, S%x76, S%x77, S%x78, S%x79]) (
 j% r16 r17 r18 r19 r20 r21 r22 r23 H21 &%H1, (
 R (.tuple #[N%, (g% r16 r17 r18 r19 r20 r21 r22 r23), N%, Z%, .bool false]) H21))))) (
 CallsH Tryz.prog n_law23_port #[S%t, I%atv] H20 (fun v8 H22 =>
 ∃ x80 : Int, v8 = I%x80 ∧ (
 CallsH Tryz.prog n_law23_card #[S%c] H22 (fun v9 H23 =>
 ∃ x81 : Sl, v9 = S%x81 ∧ (
 CallsH Tryz.prog n_ref21_Add #[S%t, I%x80, S%x81] H23 (fun v10 H24 =>
 ∃ x82 : Sl, ∃ x83 : Int, v10 = .tuple #[S%x82, I%x83] ∧ (
 j% x84 x85 x86 x87 x88 x89 x90 x91 H24 &%H3, (
 okRow H24 &%H1 8 ∧ (
 h% H25 (wrs H24 &%H1 [I%x84, S%x85, S%x86, S%x87, S%x88, S%x89, S%x90, S%x91]) (
 j% r24 r25 r26 r27 r28 r29 r30 r31 H25 &%H1, (
 R (.tuple #[S%x82, (g% r24 r25 r26 r27 r28 r29 r30 r31), S%x66, I%(t.n : Int), .bool (x83 == (0 : Int))]) H25)))))))))))))))))))))))))))) ∧ (
 h% H26 (H2.push (.cells #[Z%, N%, N%, N%, N%, N%, N%, N%] t_api_Host (0, 0))) (
 Keeps H2 H26 [(&%H, 8)] ∧ (
 CallsH Tryz.prog n_gen_Topology #[S%l, I%(16 : Int)] H26 (fun v11 H27 =>
 ∃ t1 : Sl, v11 = S%t1 ∧ (
 Keeps H26 H27 [(&%H, 8)] ∧ (
 CallsH Tryz.prog n_gen_Host #[(g% x x1 x2 x3 x4 x5 x6 x7)] H27 (fun v12 H28 =>
 ∃ x92 : Int, ∃ x93 x94 : Sl, ∃ x95 x96 : Sl, ∃ x97 x98 x99 : Sl, v12 = (g% x92 x93 x94 x95 x96 x97 x98 x99) ∧ (
 okRow H28 &%H2 8 ∧ (
 h% H29 (wrs H28 &%H2 [I%x92, S%x93, S%x94, S%x95, S%x96, S%x97, S%x98, S%x99]) (
 j% x100 x101 x102 x103 x104 x105 x106 x107 H29 &%H2, (
 CallsH Tryz.prog n_ref21_Assign #[S%t1, (g% x100 x101 x102 x103 x104 x105 x106 x107)] H29 (fun v13 H30 =>
 ∃ x108 : Sl, ∃ x109 x110 : Int, ∃ x111 x112 x113 : Int, v13 = .tuple #[S%x108, .agg #[I%x109, I%x110, U%x111, U%x112], I%x113] ∧ (
 h% H31 (H30.push (.cells #[Z%, Z%, U%(0 : Int), U%(0 : Int)] t_api_Certificate (0, 0))) (
 okRow H31 &%H30 4 ∧ (
 h% H32 (wrs H31 &%H30 [I%x109, I%x110, U%x111, U%x112]) (
 iteB (x113 != (0 : Int)) (
 j% x114 x115 x116 x117 x118 x119 x120 x121 H32 &%H2, (
 okRow H32 &%H1 8 ∧ (
 h% H33 (wrs H32 &%H1 [I%x114, S%x115, S%x116, S%x117, S%x118, S%x119, S%x120, S%x121]) (
 j% r32 r33 r34 r35 r36 r37 r38 r39 H33 &%H1, (
 R (.tuple #[N%, (g% r32 r33 r34 r35 r36 r37 r38 r39), N%, Z%, .bool false]) H33))))) (
 CallsH Tryz.prog n_law23_port #[S%t1, I%atv] H32 (fun v14 H34 =>
 ∃ x122 : Int, v14 = I%x122 ∧ (
 CallsH Tryz.prog n_law23_card #[S%c] H34 (fun v15 H35 =>
 ∃ x123 : Sl, v15 = S%x123 ∧ (
 CallsH Tryz.prog n_ref21_Add #[S%t1, I%x122, S%x123] H35 (fun v16 H36 =>
 ∃ x124 : Sl, ∃ x125 : Int, v16 = .tuple #[S%x124, I%x125] ∧ (
 j% x126 x127 x128 x129 x130 x131 x132 x133 H36 &%H2, (
 okRow H36 &%H1 8 ∧ (
 h% H37 (wrs H36 &%H1 [I%x126, S%x127, S%x128, S%x129, S%x130, S%x131, S%x132, S%x133]) (
 j% r40 r41 r42 r43 r44 r45 r46 r47 H37 &%H1, (
 R (.tuple #[S%x124, (g% r40 r41 r42 r43 r44 r45 r46 r47), S%x108, I%(t1.n : Int), .bool (x125 == (0 : Int))]) H37))))))))))))))))))))))))))))))
theorem F_law23_plugged_ok {R : V%} (l c : Sl) (h_0 : Int) (h_1 h_2 h_3 h_4 h_5 h_6 h_7 : Sl) (atv : Int) {H : Heap} (h : F_law23_plugged R l c h_0 h_1 h_2 h_3 h_4 h_5 h_6 h_7 atv H) : CallsH Tryz.prog n_law23_plugged #[S%l, S%c, (g% h_0 h_1 h_2 h_3 h_4 h_5 h_6 h_7), I%atv] H R := wpF_ok Tryz.func8 (show wpF Tryz.prog Tryz.f8 [] [] [] [9] _ H R = F_law23_plugged R l c h_0 h_1 h_2 h_3 h_4 h_5 h_6 h_7 atv H by kernel_rfl) h
def F_help_Mod (R : V%) (v n : Int) (H : Heap) : Prop :=
 (w% n) ≠ 0 ∧ (
 v% x (W% ((w% v).tmod (w% n))) (
 R (I%x) H))
theorem F_help_Mod_ok {R : V%} (v n : Int) {H : Heap} (h : F_help_Mod R v n H) : CallsH Tryz.prog n_help_Mod #[I%v, I%n] H R := wpF_ok Tryz.func9 (show wpF Tryz.prog Tryz.f9 [] [] [] [9] _ H R = F_help_Mod R v n H by kernel_rfl) h
def F_hotplug_Plan_k1 (R : V%) (l : Sl) (n : Int) (H1 : Heap) (J_ : P%) (x21 : Option Addr) (x25 : Bool) (H12 : Heap) : Prop :=
 iteB x25 (
 CallsH Tryz.prog n_hotplug_extension_assignments #[.pointer x21] H12 (fun v7 H13 =>
 ∃ result : Sl, v7 = S%result ∧ (
 CallsH Tryz.prog n_hotplug_extensionMoves #[S%result, I%(l.n : Int), I%n] H13 (fun v8 H14 =>
 ∃ x26 : Sl, v8 = S%x26 ∧ (
 okRow H14 &%H1 4 ∧ (
 h% H15 (wrs H14 &%H1 [Z%, Z%, U%(0 : Int), U%(0 : Int)]) (
 i% r8 H15 &%H1, i% r9 H15 (+%H1 1), u% r10 H15 (+%H1 2), u% r11 H15 (+%H1 3), (
 R (.tuple #[S%result, S%x26, .agg #[I%r8, I%r9, U%r10, U%r11], Z%]) H15)))))))) (
 J_ H12)
def F_hotplug_Plan_k2 (R : V%) (H : Heap) (l a : Sl) (n : Int) (H1 H16 : Heap) : Prop :=
 j% x27 x28 x29 x30 x31 x32 x33 x34 H16 &%H, (
 CallsH Tryz.prog n_allocate_Assign #[S%l, (g% x27 x28 x29 x30 x31 x32 x33 x34)] H16 (fun v9 H17 =>
 ∃ x35 : Sl, ∃ x36 x37 : Int, ∃ x38 x39 x40 : Int, v9 = .tuple #[S%x35, .agg #[I%x36, I%x37, U%x38, U%x39], I%x40] ∧ (
 h% H18 (H17.push (.cells #[Z%, Z%, U%(0 : Int), U%(0 : Int)] t_api_Certificate (0, 0))) (
 okRow H18 &%H17 4 ∧ (
 h% H19 (wrs H18 &%H17 [I%x36, I%x37, U%x38, U%x39]) (
 iteB (x40 != (0 : Int)) (
 i% x41 H19 &%H17, i% x42 H19 (+%H17 1), u% x43 H19 (+%H17 2), u% x44 H19 (+%H17 3), (
 okRow H19 &%H1 4 ∧ (
 h% H20 (wrs H19 &%H1 [I%x41, I%x42, U%x43, U%x44]) (
 i% r12 H20 &%H1, i% r13 H20 (+%H1 1), u% r14 H20 (+%H1 2), u% r15 H20 (+%H1 3), (
 R (.tuple #[N%, N%, .agg #[I%r12, I%r13, U%r14, U%r15], I%x40]) H20))))) (
 CallsH Tryz.prog n_hotplug_reassignmentMoves #[S%a, S%x35, I%(l.n : Int), I%n] H19 (fun v10 H21 =>
 ∃ x45 : Sl, v10 = S%x45 ∧ (
 okRow H21 &%H1 4 ∧ (
 h% H22 (wrs H21 &%H1 [Z%, Z%, U%(0 : Int), U%(0 : Int)]) (
 i% r16 H22 &%H1, i% r17 H22 (+%H1 1), u% r18 H22 (+%H1 2), u% r19 H22 (+%H1 3), (
 R (.tuple #[S%x35, S%x45, .agg #[I%r16, I%r17, U%r18, U%r19], Z%]) H22))))))))))))
def F_hotplug_Plan (R : V%) (l : Sl) (h_0 : Int) (h_1 h_2 h_3 h_4 h_5 h_6 h_7 a : Sl) (n : Int) (H : Heap) : Prop :=
 h% H1 (H.push (.cells #[I%h_0, S%h_1, S%h_2, S%h_3, S%h_4, S%h_5, S%h_6, S%h_7] t_api_Host (0, 0))) (
 h% H2 (H1.push (.cells #[Z%, Z%, U%(0 : Int), U%(0 : Int)] t_api_Certificate (0, 0))) (
 j% x x1 x2 x3 x4 x5 x6 x7 H2 &%H, (
 CallsH Tryz.prog n_hotplug_validPlan #[S%l, (g% x x1 x2 x3 x4 x5 x6 x7), I%n] H2 (fun v H3 =>
 ∃ x8 : Bool, v = .bool x8 ∧ (
 iteB (!x8) (
 okRow H3 &%H1 4 ∧ (
 h% H4 (wrs H3 &%H1 [Z%, Z%, U%(0 : Int), U%(0 : Int)]) (
 i% r H4 &%H1, i% r1 H4 (+%H1 1), u% r2 H4 (+%H1 2), u% r3 H4 (+%H1 3), (
 R (.tuple #[N%, N%, .agg #[I%r, I%r1, U%r2, U%r3], I%(1 : Int)]) H4)))) (
 s% x9 H3 (+%H 3), (
 CallsH Tryz.prog n_resources_Needs #[S%l, .bool (decide ((x9.n : Int) > (0 : Int)))] H3 (fun v1 H5 =>
 ∃ x10 : Sl, ∃ x11 : Int, v1 = .tuple #[S%x10, I%x11] ∧ (
 iteB (x11 != (0 : Int)) (
 okRow H5 &%H1 4 ∧ (
 h% H6 (wrs H5 &%H1 [Z%, Z%, U%(0 : Int), U%(0 : Int)]) (
 i% r4 H6 &%H1, i% r5 H6 (+%H1 1), u% r6 H6 (+%H1 2), u% r7 H6 (+%H1 3), (
 R (.tuple #[N%, N%, .agg #[I%r4, I%r5, U%r6, U%r7], I%x11]) H6)))) (
 ∃ J_ : P%, (
 0 ≤ n ∧ n ≤ (l.c : Int) ∧ (
 j% x12 x13 x14 x15 x16 x17 x18 x19 H5 &%H, (
 CallsH Tryz.prog n_allocate_Check #[.slice (slP l.p l.c 0 11) (n.toNat - 0) (l.c - 0), (g% x12 x13 x14 x15 x16 x17 x18 x19), S%a] H5 (fun v2 H7 =>
 ∃ x20 : Bool, v2 = .bool x20 ∧ (
 iteB x20 (
 CallsH Tryz.prog n_hotplug_newExtension #[S%l, S%x10, I%n] H7 (fun v3 H8 =>
 ∃ x21 : Option Addr, v3 = .pointer x21 ∧ (
 ∃ J_1 : Bool → P%, (
 CallsH Tryz.prog n_hotplug_extension_keep #[.pointer x21, S%a] H8 (fun v4 H9 =>
 ∃ x22 : Bool, v4 = .bool x22 ∧ (
 iteB x22 (
 CallsH Tryz.prog n_hotplug_extension_fillPorts #[.pointer x21] H9 (fun v5 H10 =>
 ∃ x23 : Bool, v5 = .bool x23 ∧ (
 iteB x23 (
 CallsH Tryz.prog n_hotplug_extension_fillBridges #[.pointer x21] H10 (fun v6 H11 =>
 ∃ x24 : Bool, v6 = .bool x24 ∧ (
 J_1 x24 H11))) (
 J_1 false H10)))) (
 J_1 false H9)))) ∧ (∀ x25 : Bool, ∀ H12 : Heap, J_1 x25 H12 → F_hotplug_Plan_k1 R l n H1 J_ x21 x25 H12)))) (
 J_ H7)))))) ∧ (∀ H16 : Heap, J_ H16 → F_hotplug_Plan_k2 R H l a n H1 H16)))))))))))
theorem F_hotplug_Plan_ok {R : V%} (l : Sl) (h_0 : Int) (h_1 h_2 h_3 h_4 h_5 h_6 h_7 a : Sl) (n : Int) {H : Heap} (h : F_hotplug_Plan R l h_0 h_1 h_2 h_3 h_4 h_5 h_6 h_7 a n H) : CallsH Tryz.prog n_hotplug_Plan #[S%l, (g% h_0 h_1 h_2 h_3 h_4 h_5 h_6 h_7), S%a, I%n] H R := wpF_ok Tryz.func10 (show wpF Tryz.prog Tryz.f10 [(57, .bool false)] [(11, [], [0, 2, 3, 5, 10]), (9, [57], [0, 2, 3, 5, 10, 14])] [] [9] _ H R = F_hotplug_Plan R l h_0 h_1 h_2 h_3 h_4 h_5 h_6 h_7 a n H by kernel_rfl) h
def F_law23_awake (R : V%)  (H : Heap) : Prop :=
 CallsH Tryz.prog n_hotplug_NewSlot #[.bool true, U%(5 : Int)] H (fun v H1 =>
 ∃ x : Option Addr, ∃ x1 : Int, v = .tuple #[.pointer x, I%x1] ∧ (
 iteB (x1 != (0 : Int)) (
 R (.bool false) H1) (
 iteB x.isNone (
 R (.bool false) H1) (
 CallsH Tryz.prog n_hotplug_Slot_Handle #[.pointer x, I%(3 : Int), U%(10 : Int)] H1 (fun v1 H2 =>
 ∃ x2 : Sl, ∃ x3 : Int, v1 = .tuple #[S%x2, I%x3] ∧ (
 CallsH Tryz.prog n_hotplug_Slot_Advance #[.pointer x, U%(15 : Int)] H2 (fun v2 H3 =>
 ∃ b : Sl, v2 = S%b ∧ (
 CallsH Tryz.prog n_hotplug_Slot_Handle #[.pointer x, I%(2 : Int), U%(20 : Int)] H3 (fun v3 H4 =>
 ∃ x4 : Sl, ∃ x5 : Int, v3 = .tuple #[S%x4, I%x5] ∧ (
 iteB (x3 == (0 : Int)) (
 iteB (x5 == (0 : Int)) (
 h% H5 (H4.push (.cells #[I%(1 : Int)] t_int (0, 0))) (
 CallsH Tryz.prog n_help_Equal_int #[S%x2, .slice (some &%H4) 1 1] H5 (fun v4 H6 =>
 ∃ x6 : Bool, v4 = .bool x6 ∧ (
 iteB x6 (
 h% H7 (H6.push (.cells #[I%(3 : Int)] t_int (0, 0))) (
 CallsH Tryz.prog n_help_Equal_int #[S%b, .slice (some &%H6) 1 1] H7 (fun v5 H8 =>
 ∃ x7 : Bool, v5 = .bool x7 ∧ (
 iteB x7 (
 h% H9 (H8.push (.cells #[I%(5 : Int), I%(2 : Int)] t_int (0, 0))) (
 CallsH Tryz.prog n_help_Equal_int #[S%x4, .slice (some &%H8) 2 2] H9 (fun v6 H10 =>
 ∃ x8 : Bool, v6 = .bool x8 ∧ (
 iteB x8 (
 CallsH Tryz.prog n_hotplug_Slot_State #[.pointer x] H10 (fun v7 H11 =>
 ∃ x9 : Int, v7 = I%x9 ∧ (
 R (.bool (x9 == (1 : Int))) H11))) (
 R (.bool false) H10))))) (
 R (.bool false) H8))))) (
 R (.bool false) H6))))) (
 R (.bool false) H4)) (
 R (.bool false) H4)))))))))))
theorem F_law23_awake_ok {R : V%}  {H : Heap} (h : F_law23_awake R  H) : CallsH Tryz.prog n_law23_awake #[] H R := wpF_ok Tryz.func12 (show wpF Tryz.prog Tryz.f12 [] [] [] [9] _ H R = F_law23_awake R  H by kernel_rfl) h
def F_allocate_Check_r1 (R : V%) (l a : Sl) (I_1 : Int → P%) (M_1 : Int → M%) (x22 : Int) (H9 : Heap) (parent classv : Int) (I_2 : Int → P%) (M_2 : Int → M%) (x36 : Int) (H16 : Heap) : Prop :=
 iteB (decide (x36 < (((x22.toNat - 0) : Nat) : Int))) (
 0 ≤ x36 ∧ x36 < (((x22.toNat - 0) : Nat) : Int) ∧ (unSome (slP a.p a.c 0 5) (fun a3 =>
 a% x37 x38 x39 x40 x41 H16 (a3.add (x36.toNat * 5)), (
 h% H17 (H16.push (.cells #[Z%, Z%, Z%, Z%, U%(0 : Int)] t_api_Assignment (0, 0))) (
 okRow H17 &%H16 5 ∧ (
 h% H18 (wrs H17 &%H16 [I%x37, I%x38, I%x39, I%x40, U%x41]) (
 i% x42 H18 &%H16, (
 x% x42 l a4 ((
 i% x43 H18 (a4.add (x42.toNat * 11)), (
 iteB (x43 == parent) (
 i% x44 H18 (+%H16 2), (
 iteB (x44 == classv) (
 a% x45 x46 x47 x48 x49 H18 &%H9, (
 a% x50 x51 x52 x53 x54 H18 &%H16, (
 CallsH Tryz.prog n_allocate_overlap #[.agg #[I%x45, I%x46, I%x47, I%x48, U%x49], .agg #[I%x50, I%x51, I%x52, I%x53, U%x54]] H18 (fun v6 H19 =>
 ∃ x55 : Bool, v6 = .bool x55 ∧ (
 iteB x55 (
 R (.bool false) H19) (
 I_2 (W% (x36 + (1 : Int))) H19 ∧ M_2 (W% (x36 + (1 : Int))) H19 < M_2 x36 H16)))))) (
 I_2 (W% (x36 + (1 : Int))) H18 ∧ M_2 (W% (x36 + (1 : Int))) H18 < M_2 x36 H16))) (
 I_2 (W% (x36 + (1 : Int))) H18 ∧ M_2 (W% (x36 + (1 : Int))) H18 < M_2 x36 H16)))))))))))) (
 I_1 (W% (x22 + (1 : Int))) H16 ∧ M_1 (W% (x22 + (1 : Int))) H16 < M_1 x22 H9)
def F_allocate_Check_k2 (R : V%) (l a : Sl) (I_1 : Int → P%) (M_1 : Int → M%) (x22 : Int) (H9 : Heap) (size parent classv : Int) (space1 : Sl) (H14 : Heap) : Prop :=
 u% x34 H14 (+%H9 4), (
 CallsH Tryz.prog n_allocate_inside #[S%space1, U%x34, U%size] H14 (fun v5 H15 =>
 ∃ x35 : Bool, v5 = .bool x35 ∧ (
 iteB (!x35) (
 R (.bool false) H15) (
 0 ≤ x22 ∧ x22 ≤ (a.c : Int) ∧ (
 ∃ I_2 : Int → P%, ∃ M_2 : Int → M%, I_2 (0 : Int) H15 ∧ (∀ x36 : Int, ∀ H16 : Heap, I_2 x36 H16 → F_allocate_Check_r1 R l a I_1 M_1 x22 H9 parent classv I_2 M_2 x36 H16))))))
def F_allocate_Check_r3 (R : V%) (l a : Sl) (H4 : Heap) (I_1 : Int → P%) (M_1 : Int → M%) (x22 : Int) (H9 : Heap) : Prop :=
 iteB (decide (x22 < (a.n : Int))) (
 x% x22 a a1 ((
 a% x23 x24 x25 x26 x27 H9 (a1.add (x22.toNat * 5)), (
 h% H10 (H9.push (.cells #[Z%, Z%, Z%, Z%, U%(0 : Int)] t_api_Assignment (0, 0))) (
 okRow H10 &%H9 5 ∧ (
 h% H11 (wrs H10 &%H9 [I%x23, I%x24, I%x25, I%x26, U%x27]) (
 i% x28 H11 (+%H9 3), (
 0 ≤ x28 ∧ (
 v% size (w% ((1 : Int) * 2 ^ (min x28.toNat IntKind.u64.bits))) (
 u% x29 H11 (+%H9 4), (
 size ≠ 0 ∧ (
 iteB ((x29.tmod size) != (0 : Int)) (
 R (.bool false) H11) (
 i% x30 H11 &%H9, (
 x% x30 l a2 ((
 i% parent H11 (a2.add (x30.toNat * 11)), (
 i% classv H11 (+%H9 2), (
 0 ≤ classv ∧ classv < ((3 : Nat) : Int) ∧ (s% space H11 ((&%H4).add (classv.toNat * 1)), (
 ∃ J_ : Sl → P%, (
 iteB (decide (parent ≥ (0 : Int))) (
 CallsH Tryz.prog n_allocate_window #[S%a, I%parent, I%classv] H11 (fun v4 H12 =>
 ∃ x31 x32 : Int, ∃ x33 : Bool, v4 = .tuple #[U%x31, U%x32, .bool x33] ∧ (
 iteB (!x33) (
 R (.bool false) H12) (
 h% H13 (H12.push (.cells #[U%x31, U%x32] t_api_Range (0, 0))) (
 J_ (Sl.mk (some &%H12) 1 1) H13))))) (
 J_ space H11)) ∧ (∀ space1 : Sl, ∀ H14 : Heap, J_ space1 H14 → F_allocate_Check_k2 R l a I_1 M_1 x22 H9 size parent classv space1 H14))))))))))))))))))))) (
 R (.bool true) H9)
def F_allocate_Check_r4 (R : V%) (H : Heap) (l a : Sl) (H4 : Heap) (I_ : Int → P%) (M_ : Int → M%) (x12 : Int) (H6 : Heap) : Prop :=
 iteB (decide (x12 < (3 : Int))) (
 j% x13 x14 x15 x16 x17 x18 x19 x20 H6 &%H, (
 CallsH Tryz.prog n_allocate_hostFree #[(g% x13 x14 x15 x16 x17 x18 x19 x20), I%x12] H6 (fun v3 H7 =>
 ∃ x21 : Sl, v3 = S%x21 ∧ (
 0 ≤ x12 ∧ x12 < ((3 : Nat) : Int) ∧ (okRow H7 ((&%H4).add (x12.toNat * 1)) 1 ∧ (
 h% H8 (wrs H7 ((&%H4).add (x12.toNat * 1)) [S%x21]) (
 I_ (W% (x12 + (1 : Int))) H8 ∧ M_ (W% (x12 + (1 : Int))) H8 < M_ x12 H6))))))) (
 ∃ I_1 : Int → P%, ∃ M_1 : Int → M%, I_1 (0 : Int) H6 ∧ (∀ x22 : Int, ∀ H9 : Heap, I_1 x22 H9 → F_allocate_Check_r3 R l a H4 I_1 M_1 x22 H9))
def F_allocate_Check (R : V%) (l : Sl) (h_0 : Int) (h_1 h_2 h_3 h_4 h_5 h_6 h_7 a : Sl) (H : Heap) : Prop :=
 h% H1 (H.push (.cells #[I%h_0, S%h_1, S%h_2, S%h_3, S%h_4, S%h_5, S%h_6, S%h_7] t_api_Host (0, 0))) (
 CallsH Tryz.prog n_enumerate_Valid #[S%l] H1 (fun v H2 =>
 ∃ x : Bool, v = .bool x ∧ (
 iteB (!x) (
 R (.bool false) H2) (
 j% x1 x2 x3 x4 x5 x6 x7 x8 H2 &%H, (
 CallsH Tryz.prog n_allocate_ValidHost #[(g% x1 x2 x3 x4 x5 x6 x7 x8)] H2 (fun v1 H3 =>
 ∃ x9 : Bool, v1 = .bool x9 ∧ (
 iteB (!x9) (
 R (.bool false) H3) (
 s% x10 H3 (+%H 3), (
 CallsH Tryz.prog n_allocate_covers #[S%l, .bool (decide ((x10.n : Int) > (0 : Int))), S%a] H3 (fun v2 H4 =>
 ∃ x11 : Bool, v2 = .bool x11 ∧ (
 iteB (!x11) (
 R (.bool false) H4) (
 h% H5 (H4.push (.cells #[N%, N%, N%] t_3_sl_api_Range (0, 0))) (
 ∃ I_ : Int → P%, ∃ M_ : Int → M%, I_ (0 : Int) H5 ∧ (∀ x12 : Int, ∀ H6 : Heap, I_ x12 H6 → F_allocate_Check_r4 R H l a H4 I_ M_ x12 H6))))))))))))))
theorem F_allocate_Check_ok {R : V%} (l : Sl) (h_0 : Int) (h_1 h_2 h_3 h_4 h_5 h_6 h_7 a : Sl) {H : Heap} (h : F_allocate_Check R l h_0 h_1 h_2 h_3 h_4 h_5 h_6 h_7 a H) : CallsH Tryz.prog n_allocate_Check #[S%l, (g% h_0 h_1 h_2 h_3 h_4 h_5 h_6 h_7), S%a] H R := wpF_ok Tryz.func15 (show wpF Tryz.prog Tryz.f15 [(14, N%), (38, I%0), (49, I%0), (102, I%0)] [(22, [14], [0, 2, 7, 9, 10, 11, 12, 13, 47, 48, 49])] [(5, [38], [0, 2, 4, 7]), (10, [49], [0, 2, 7, 47, 48]), (25, [102], [0, 2, 7, 10, 12, 13, 47, 48, 49, 100, 101])] [9] _ H R = F_allocate_Check R l h_0 h_1 h_2 h_3 h_4 h_5 h_6 h_7 a H by kernel_rfl) h
def F_ref18_Needs_r1 (l : Sl) (high : Bool) (all : Sl) (i1 : Int) (J_ : Sl → P%) (I_2 : Sl → Int → P%) (M_2 : Sl → Int → M%) (own2 : Sl) (c : Int) (H7 : Heap) : Prop :=
 x% i1 l a3 ((
 b% x6 H7 ((a3.add (i1.toNat * 11)).add 4), (
 iteB x6 (
 iteB (decide (c < (3 : Int))) (
 CallsH Tryz.prog n_ref18_window #[S%l, .bool high, I%i1, I%c, S%all] H7 (fun v3 H8 =>
 ∃ x7 : Int, ∃ x8 : Bool, v3 = .tuple #[I%x7, .bool x8] ∧ (
 iteB x8 (
 h% H9 (H8.push (.cells #[I%i1, I%(W% ((-1 : Int) - c)), I%c, I%x7] t_api_Need (0, 0))) (
 runH Tryz.prog (Builtin.append_ #[t_sl_api_Need, t_sl_api_Need] t_sl_api_Need #[S%own2, .slice (some &%H8) 1 1]) H9 (fun v4 H10 =>
 ∃ own3 : Sl, v4 = S%own3 ∧ (
 v% c1 (W% (c + (1 : Int))) (
 I_2 own3 c1 H10 ∧ M_2 own3 c1 H10 < M_2 own2 c H7))))) (
 v% c2 (W% (c + (1 : Int))) (
 I_2 own2 c2 H8 ∧ M_2 own2 c2 H8 < M_2 own2 c H7))))) (
 J_ own2 H7)) (
 J_ own2 H7))))
def F_ref18_Needs_r2 (R : V%) (I_ : Sl → Bool → Int → P%) (M_ : Sl → Bool → Int → M%) (all : Sl) (bad : Bool) (i1 : Int) (H2 : Heap) (own4 : Sl) (I_3 : Bool → Int → P%) (M_3 : Bool → Int → M%) (bad1 : Bool) (k3 : Int) (H12 : Heap) : Prop :=
 iteB (decide (k3 < (own4.n : Int))) (
 x% k3 own4 a4 ((
 i% x9 H12 ((a4.add (k3.toNat * 4)).add 2), (
 0 ≤ x9 ∧ x9 < ((3 : Nat) : Int) ∧ (iteB (x9 == (0 : Int)) (
 iteB bad1 (
 v% k4 (W% (k3 + (1 : Int))) (
 I_3 true k4 H12 ∧ M_3 true k4 H12 < M_3 bad1 k3 H12)) (
 x% k3 own4 a5 ((
 i% x10 H12 ((a5.add (k3.toNat * 4)).add 3), (
 v% k5 (W% (k3 + (1 : Int))) (
 I_3 (decide (x10 > (15 : Int))) k5 H12 ∧ M_3 (decide (x10 > (15 : Int))) k5 H12 < M_3 bad1 k3 H12)))))) (
 iteB (x9 == (1 : Int)) (
 iteB bad1 (
 v% k6 (W% (k3 + (1 : Int))) (
 I_3 true k6 H12 ∧ M_3 true k6 H12 < M_3 bad1 k3 H12)) (
 x% k3 own4 a6 ((
 i% x11 H12 ((a6.add (k3.toNat * 4)).add 3), (
 v% k7 (W% (k3 + (1 : Int))) (
 I_3 (decide (x11 > (31 : Int))) k7 H12 ∧ M_3 (decide (x11 > (31 : Int))) k7 H12 < M_3 bad1 k3 H12)))))) (
 iteB (x9 == (2 : Int)) (
 iteB bad1 (
 v% k8 (W% (k3 + (1 : Int))) (
 I_3 true k8 H12 ∧ M_3 true k8 H12 < M_3 bad1 k3 H12)) (
 x% k3 own4 a7 ((
 i% x12 H12 ((a7.add (k3.toNat * 4)).add 3), (
 v% k9 (W% (k3 + (1 : Int))) (
 I_3 (decide (x12 > (44 : Int))) k9 H12 ∧ M_3 (decide (x12 > (44 : Int))) k9 H12 < M_3 bad1 k3 H12)))))) (
 False)))))))) (
 iteB bad1 (
 R (.tuple #[N%, I%(11 : Int)]) H12) (
 runH Tryz.prog (Builtin.append_ #[t_sl_api_Need, t_sl_api_Need] t_sl_api_Need #[S%own4, S%all]) H12 (fun v5 H13 =>
 ∃ all1 : Sl, v5 = S%all1 ∧ (
 v% i2 (W% (i1 - (1 : Int))) (
 I_ all1 bad1 i2 H13 ∧ M_ all1 bad1 i2 H13 < M_ all bad i1 H2)))))
def F_ref18_Needs_k3 (R : V%) (I_ : Sl → Bool → Int → P%) (M_ : Sl → Bool → Int → M%) (all : Sl) (bad : Bool) (i1 : Int) (H2 : Heap) (own4 : Sl) (H11 : Heap) : Prop :=
 ∃ I_3 : Bool → Int → P%, ∃ M_3 : Bool → Int → M%, I_3 bad (0 : Int) H11 ∧ (∀ bad1 : Bool, ∀ k3 : Int, ∀ H12 : Heap, I_3 bad1 k3 H12 → F_ref18_Needs_r2 R I_ M_ all bad i1 H2 own4 I_3 M_3 bad1 k3 H12)
def F_ref18_Needs_r4 (R : V%) (l : Sl) (high : Bool) (I_ : Sl → Bool → Int → P%) (M_ : Sl → Bool → Int → M%) (all : Sl) (bad : Bool) (i1 : Int) (H2 : Heap) (I_1 : Sl → Int → P%) (M_1 : Sl → Int → M%) (own : Sl) (k : Int) (H3 : Heap) : Prop :=
 x% i1 l a ((
 s% x1 H3 ((a.add (i1.toNat * 11)).add 10), (
 iteB (decide (k < (x1.n : Int))) (
 CallsH Tryz.prog n_ref18_Class #[S%l, .bool high, I%i1, I%k] H3 (fun v1 H4 =>
 ∃ x2 : Int, ∃ x3 : Bool, v1 = .tuple #[I%x2, .bool x3] ∧ (
 iteB x3 (
 x% i1 l a1 ((
 s% x4 H4 ((a1.add (i1.toNat * 11)).add 10), (
 x% k x4 a2 ((
 i% x5 H4 ((a2.add (k.toNat * 2)).add 1), (
 h% H5 (H4.push (.cells #[I%i1, I%k, I%x2, I%x5] t_api_Need (0, 0))) (
 runH Tryz.prog (Builtin.append_ #[t_sl_api_Need, t_sl_api_Need] t_sl_api_Need #[S%own, .slice (some &%H4) 1 1]) H5 (fun v2 H6 =>
 ∃ own1 : Sl, v2 = S%own1 ∧ (
 v% k1 (W% (k + (1 : Int))) (
 I_1 own1 k1 H6 ∧ M_1 own1 k1 H6 < M_1 own k H3))))))))))) (
 v% k2 (W% (k + (1 : Int))) (
 I_1 own k2 H4 ∧ M_1 own k2 H4 < M_1 own k H3))))) (
 ∃ J_ : Sl → P%, (
 ∃ I_2 : Sl → Int → P%, ∃ M_2 : Sl → Int → M%, I_2 own (0 : Int) H3 ∧ (∀ own2 : Sl, ∀ c : Int, ∀ H7 : Heap, I_2 own2 c H7 → F_ref18_Needs_r1 l high all i1 J_ I_2 M_2 own2 c H7)) ∧ (∀ own4 : Sl, ∀ H11 : Heap, J_ own4 H11 → F_ref18_Needs_k3 R I_ M_ all bad i1 H2 own4 H11)))))
def F_ref18_Needs_r5 (R : V%) (l : Sl) (high : Bool) (I_ : Sl → Bool → Int → P%) (M_ : Sl → Bool → Int → M%) (all : Sl) (bad : Bool) (i1 : Int) (H2 : Heap) : Prop :=
 iteB (decide (i1 ≥ (0 : Int))) (
 ∃ I_1 : Sl → Int → P%, ∃ M_1 : Sl → Int → M%, I_1 (Sl.mk none 0 0) (0 : Int) H2 ∧ (∀ own : Sl, ∀ k : Int, ∀ H3 : Heap, I_1 own k H3 → F_ref18_Needs_r4 R l high I_ M_ all bad i1 H2 I_1 M_1 own k H3)) (
 R (.tuple #[S%all, Z%]) H2)
def F_ref18_Needs (R : V%) (l : Sl) (high : Bool) (H : Heap) : Prop :=
 CallsH Tryz.prog n_ref18_Valid #[S%l] H (fun v H1 =>
 ∃ x : Bool, v = .bool x ∧ (
 iteB (!x) (
 R (.tuple #[N%, I%(1 : Int)]) H1) (
 v% i (W% ((l.n : Int) - (1 : Int))) (
 ∃ I_ : Sl → Bool → Int → P%, ∃ M_ : Sl → Bool → Int → M%, I_ (Sl.mk none 0 0) false i H1 ∧ (∀ all : Sl, ∀ bad : Bool, ∀ i1 : Int, ∀ H2 : Heap, I_ all bad i1 H2 → F_ref18_Needs_r5 R l high I_ M_ all bad i1 H2)))))
theorem F_ref18_Needs_ok {R : V%} (l : Sl) (high : Bool) {H : Heap} (h : F_ref18_Needs R l high H) : CallsH Tryz.prog n_ref18_Needs #[S%l, .bool high] H R := wpF_ok Tryz.func16 (show wpF Tryz.prog Tryz.f16 [(6, N%), (7, .bool false), (8, I%0), (9, N%), (10, I%0), (13, I%0), (16, I%0)] [(21, [9], [0, 1, 6, 7, 8])] [(6, [6, 7, 8], [0, 1]), (10, [9, 10], [0, 1, 6, 7, 8]), (16, [9, 13], [0, 1, 6, 7, 8]), (22, [7, 16], [0, 1, 6, 8, 9])] [9] _ H R = F_ref18_Needs R l high H by kernel_rfl) h
def F_ref18_NeedsBelow_k1 (needs : Sl) (I_ : Sl → Int → P%) (M_ : Sl → Int → M%) (out : Sl) (k : Int) (H2 : Heap) (x3 : Bool) (H3 : Heap) : Prop :=
 iteB x3 (
 x% k needs a4 ((
 i% x4 H3 (a4.add (k.toNat * 4)), i% x5 H3 ((a4.add (k.toNat * 4)).add 1), i% x6 H3 ((a4.add (k.toNat * 4)).add 2), i% x7 H3 ((a4.add (k.toNat * 4)).add 3), (
 h% H4 (H3.push (.cells #[I%x4, I%x5, I%x6, I%x7] t_api_Need (0, 0))) (
 runH Tryz.prog (Builtin.append_ #[t_sl_api_Need, t_sl_api_Need] t_sl_api_Need #[S%out, .slice (some &%H3) 1 1]) H4 (fun v H5 =>
 ∃ out1 : Sl, v = S%out1 ∧ (
 v% k1 (W% (k + (1 : Int))) (
 I_ out1 k1 H5 ∧ M_ out1 k1 H5 < M_ out k H2)))))))) (
 v% k2 (W% (k + (1 : Int))) (
 I_ out k2 H3 ∧ M_ out k2 H3 < M_ out k H2))
def F_ref18_NeedsBelow_r2 (R : V%) (l needs : Sl) (parent classv : Int) (I_ : Sl → Int → P%) (M_ : Sl → Int → M%) (out : Sl) (k : Int) (H2 : Heap) : Prop :=
 iteB (decide (k < (needs.n : Int))) (
 x% k needs a1 ((
 i% f H2 (a1.add (k.toNat * 4)), (
 ∃ J_1 : Bool → P%, (
 x% k needs a2 ((
 i% x1 H2 ((a2.add (k.toNat * 4)).add 2), (
 iteB (x1 == classv) (
 iteB (decide (f ≥ (0 : Int))) (
 iteB (decide (f < (l.n : Int))) (
 x% f l a3 ((
 i% x2 H2 (a3.add (f.toNat * 11)), (
 J_1 (x2 == parent) H2)))) (
 J_1 false H2)) (
 J_1 false H2)) (
 J_1 false H2))))) ∧ (∀ x3 : Bool, ∀ H3 : Heap, J_1 x3 H3 → F_ref18_NeedsBelow_k1 needs I_ M_ out k H2 x3 H3))))) (
 R (S%out) H2)
def F_ref18_NeedsBelow_k3 (R : V%) (l needs : Sl) (parent classv : Int) (H1 : Heap) : Prop :=
 ∃ I_ : Sl → Int → P%, ∃ M_ : Sl → Int → M%, I_ (Sl.mk none 0 0) (0 : Int) H1 ∧ (∀ out : Sl, ∀ k : Int, ∀ H2 : Heap, I_ out k H2 → F_ref18_NeedsBelow_r2 R l needs parent classv I_ M_ out k H2)
def F_ref18_NeedsBelow (R : V%) (l needs : Sl) (parent classv : Int) (H : Heap) : Prop :=
 ∃ J_ : P%, (
 iteB (decide (parent < (-1 : Int))) (
 R (N%) H) (
 iteB (decide (parent ≥ (l.n : Int))) (
 R (N%) H) (
 iteB (decide (parent ≥ (0 : Int))) (
 x% parent l a ((
 b% x H ((a.add (parent.toNat * 11)).add 4), (
 iteB (!x) (
 R (N%) H) (
 J_ H))))) (
 J_ H)))) ∧ (∀ H1 : Heap, J_ H1 → F_ref18_NeedsBelow_k3 R l needs parent classv H1)
theorem F_ref18_NeedsBelow_ok {R : V%} (l needs : Sl) (parent classv : Int) {H : Heap} (h : F_ref18_NeedsBelow R l needs parent classv H) : CallsH Tryz.prog n_ref18_NeedsBelow #[S%l, S%needs, I%parent, I%classv] H R := wpF_ok Tryz.func17 (show wpF Tryz.prog Tryz.f17 [(9, N%), (10, I%0), (68, .bool false)] [(4, [], [0, 1, 2, 3, 9]), (9, [68], [0, 1, 2, 3, 9, 10])] [(5, [9, 10], [0, 1, 2, 3])] [9] _ H R = F_ref18_NeedsBelow R l needs parent classv H by kernel_rfl) h
def F_allocate_Refutes (R : V%) (free sizes : Sl) (c_0 c_1 c_2 c_3 : Int) (H : Heap) : Prop :=
 h% H1 (H.push (.cells #[I%c_0, I%c_1, U%c_2, U%c_3] t_api_Certificate (0, 0))) (
 CallsH Tryz.prog n_allocate_placeable #[S%free, S%sizes] H1 (fun v H2 =>
 ∃ x : Bool, v = .bool x ∧ (
 iteB (!x) (
 R (.bool false) H2) (
 i% x1 H2 (+%H 1), (
 iteB (decide (x1 < (0 : Int))) (
 R (.bool false) H2) (
 i% x2 H2 (+%H 1), (
 iteB (decide (x2 > (52 : Int))) (
 R (.bool false) H2) (
 u% x3 H2 (+%H 2), (
 i% x4 H2 (+%H 1), (
 CallsH Tryz.prog n_allocate_demand #[S%sizes, I%x4] H2 (fun v1 H3 =>
 ∃ x5 : Int, v1 = U%x5 ∧ (
 Keeps H2 H3 [((+%H 2), 1)] ∧ (
 iteB (x3 != x5) (
 R (.bool false) H3) (
 u% x6 H3 (+%H 3), (
 i% x7 H3 (+%H 1), (
 CallsH Tryz.prog n_allocate_Blocks #[S%free, I%x7] H3 (fun v2 H4 =>
 ∃ x8 : Int, v2 = U%x8 ∧ (
 Keeps H3 H4 [((+%H 3), 1)] ∧ (
 iteB (x6 != x8) (
 R (.bool false) H4) (
 u% x9 H4 (+%H 2), (
 u% x10 H4 (+%H 3), (
 i% x11 H4 (+%H 1), (
 0 ≤ x11 ∧ (
 R (.bool (decide (x9 > (w% (x10 * 2 ^ (min x11.toNat IntKind.u64.bits)))))) H4))))))))))))))))))))))))
theorem F_allocate_Refutes_ok {R : V%} (free sizes : Sl) (c_0 c_1 c_2 c_3 : Int) {H : Heap} (h : F_allocate_Refutes R free sizes c_0 c_1 c_2 c_3 H) : CallsH Tryz.prog n_allocate_Refutes #[S%free, S%sizes, .agg #[I%c_0, I%c_1, U%c_2, U%c_3]] H R := wpF_ok Tryz.func18 (show wpF Tryz.prog Tryz.f18 [] [] [] [9] _ H R = F_allocate_Refutes R free sizes c_0 c_1 c_2 c_3 H by kernel_rfl) h
def F_ref21_Space (R : V%) (h_0 : Int) (h_1 h_2 h_3 h_4 h_5 h_6 h_7 : Sl) (classv : Int) (H : Heap) : Prop :=
 h% H1 (H.push (.cells #[I%h_0, S%h_1, S%h_2, S%h_3, S%h_4, S%h_5, S%h_6, S%h_7] t_api_Host (0, 0))) (
 iteB (classv == (0 : Int)) (
 s% x H1 (+%H 1), (
 s% x1 H1 (+%H 4), (
 CallsH Tryz.prog n_ref21_Free #[S%x, S%x1] H1 (fun v H2 =>
 ∃ x2 : Sl, v = S%x2 ∧ (
 R (S%x2) H2))))) (
 iteB (classv == (1 : Int)) (
 s% x3 H1 (+%H 2), (
 s% x4 H1 (+%H 5), (
 CallsH Tryz.prog n_ref21_Free #[S%x3, S%x4] H1 (fun v1 H3 =>
 ∃ x5 : Sl, v1 = S%x5 ∧ (
 R (S%x5) H3))))) (
 s% x6 H1 (+%H 3), (
 s% x7 H1 (+%H 5), (
 CallsH Tryz.prog n_ref21_Free #[S%x6, S%x7] H1 (fun v2 H4 =>
 ∃ x8 : Sl, v2 = S%x8 ∧ (
 R (S%x8) H4)))))))
theorem F_ref21_Space_ok {R : V%} (h_0 : Int) (h_1 h_2 h_3 h_4 h_5 h_6 h_7 : Sl) (classv : Int) {H : Heap} (h : F_ref21_Space R h_0 h_1 h_2 h_3 h_4 h_5 h_6 h_7 classv H) : CallsH Tryz.prog n_ref21_Space #[(g% h_0 h_1 h_2 h_3 h_4 h_5 h_6 h_7), I%classv] H R := wpF_ok Tryz.func19 (show wpF Tryz.prog Tryz.f19 [] [] [] [9] _ H R = F_ref21_Space R h_0 h_1 h_2 h_3 h_4 h_5 h_6 h_7 classv H by kernel_rfl) h
def F_gen_Topology_k1 (out bridges : Sl) (J_1 : Sl → Int → P%) (H28 : Heap) : Prop :=
 h% H29 (H28.push (.cells #[I%(out.n : Int)] t_int (0, 0))) (
 runH Tryz.prog (Builtin.append_ #[t_sl_int, t_sl_int] t_sl_int #[S%bridges, .slice (some &%H28) 1 1]) H29 (fun v13 H30 =>
 ∃ bridges1 : Sl, v13 = S%bridges1 ∧ (
 J_1 bridges1 (2 : Int) H30)))
def F_gen_Topology_k2 (out bridges : Sl) (H3 : Heap) (g : Addr) (J_1 : Sl → Int → P%) (H25 : Heap) : Prop :=
 ∃ J_3 : P%, (
 b% x46 H25 (g.add 6), (
 iteB x46 (
 i% x47 H25 (+%H3 7), (
 CallsH Tryz.prog n_help_Mod #[I%x47, I%(4 : Int)] H25 (fun v12 H26 =>
 ∃ x48 : Int, v12 = I%x48 ∧ (
 okRow H26 (g.add 7) 1 ∧ (
 h% H27 (wrs H26 (g.add 7) [I%x48]) (
 J_3 H27)))))) (
 J_3 H25))) ∧ (∀ H28 : Heap, J_3 H28 → F_gen_Topology_k1 out bridges J_1 H28)
def F_gen_Topology_k3 (I_ : Sl → Sl → Int → P%) (M_ : Sl → Sl → Int → M%) (out bridges : Sl) (i : Int) (H3 : Heap) (g : Addr) (bridges2 : Sl) (most2 : Int) (H31 : Heap) : Prop :=
 s% x49 H31 (+%H3 10), (
 CallsH Tryz.prog n_gen_bars #[S%x49, I%most2] H31 (fun v14 H32 =>
 ∃ x50 : Sl, v14 = S%x50 ∧ (
 okRow H32 (g.add 10) 1 ∧ (
 h% H33 (wrs H32 (g.add 10) [S%x50]) (
 i% x51 H33 g, i% x52 H33 (g.add 1), i% x53 H33 (g.add 2), i% x54 H33 (g.add 3), b% x55 H33 (g.add 4), b% x56 H33 (g.add 5), b% x57 H33 (g.add 6), i% x58 H33 (g.add 7), i% x59 H33 (g.add 8), i% x60 H33 (g.add 9), s% x61 H33 (g.add 10), (
 h% H34 (H33.push (.cells #[I%x51, I%x52, I%x53, I%x54, .bool x55, .bool x56, .bool x57, I%x58, I%x59, I%x60, S%x61] t_api_Function (0, 0))) (
 runH Tryz.prog (Builtin.append_ #[t_sl_api_Function, t_sl_api_Function] t_sl_api_Function #[S%out, .slice (some &%H33) 1 1]) H34 (fun v15 H35 =>
 ∃ out1 : Sl, v15 = S%out1 ∧ (
 v% i2 (W% (i + (1 : Int))) (
 I_ out1 bridges2 i2 H35 ∧ M_ out1 bridges2 i2 H35 < M_ out bridges i H3))))))))))
def F_gen_Topology_k4 (H : Heap) (I_ : Sl → Sl → Int → P%) (M_ : Sl → Sl → Int → M%) (out bridges : Sl) (i : Int) (H3 : Heap) (g : Addr) (H18 : Heap) : Prop :=
 i% x35 H18 g, (
 i% x36 H18 (g.add 1), (
 runH Tryz.prog (Instr.lookup t_map_2_int_bool (.map (some H.size)) (.agg #[I%x35, I%x36]) false) H18 (fun v9 H19 =>
 ∃ x37 : Bool, v9 = .bool x37 ∧ (
 iteB x37 (
 v% i1 (W% (i + (1 : Int))) (
 I_ out bridges i1 H19 ∧ M_ out bridges i1 H19 < M_ out bridges i H3)) (
 i% x38 H19 g, (
 i% x39 H19 (g.add 1), (
 runH Tryz.prog (Instr.mapUpdate t_map_2_int_bool (.map (some H.size)) (.agg #[I%x38, I%x39]) (.bool true)) H19 (fun _ H20 =>
 ∃ J_1 : Sl → Int → P%, (
 b% x40 H20 (g.add 4), (
 iteB x40 (
 ∃ J_2 : P%, (
 i% x41 H20 (+%H3 3), (
 CallsP Tryz.prog n_help_Mod #[I%x41, I%(3 : Int)] (fun v10 =>
 ∃ x42 : Int, v10 = I%x42 ∧ (
 b% x43 H20 (+%H3 6), (
 iteB x43 (
 okRow H20 (g.add 5) 1 ∧ (
 h% H21 (wrs H20 (g.add 5) [.bool (decide (x42 > (0 : Int)))]) (
 okRow H21 (g.add 6) 1 ∧ (
 h% H22 (wrs H21 (g.add 6) [.bool true]) (
 J_2 H22))))) (
 i% x44 H20 (+%H3 3), (
 CallsP Tryz.prog n_help_Mod #[I%x44, I%(4 : Int)] (fun v11 =>
 ∃ x45 : Int, v11 = I%x45 ∧ (
 okRow H20 (g.add 5) 1 ∧ (
 h% H23 (wrs H20 (g.add 5) [.bool (decide (x42 > (0 : Int)))]) (
 okRow H23 (g.add 6) 1 ∧ (
 h% H24 (wrs H23 (g.add 6) [.bool (x45 == (0 : Int))]) (
 J_2 H24))))))))))))) ∧ (∀ H25 : Heap, J_2 H25 → F_gen_Topology_k2 out bridges H3 g J_1 H25)) (
 J_1 bridges (6 : Int) H20))) ∧ (∀ bridges2 : Sl, ∀ most2 : Int, ∀ H31 : Heap, J_1 bridges2 most2 H31 → F_gen_Topology_k3 I_ M_ out bridges i H3 g bridges2 most2 H31)))))))))
def F_gen_Topology_r5 (R : V%) (H : Heap) (l : Sl) (most : Int) (I_ : Sl → Sl → Int → P%) (M_ : Sl → Sl → Int → M%) (out bridges : Sl) (i : Int) (H3 : Heap) : Prop :=
 iteB (decide (i < (l.n : Int))) (
 iteB (decide ((out.n : Int) < most)) (
 x% i l a ((
 f% x x1 x2 x3 x4 x5 x6 x7 x8 x9 x10 H3 (a.add (i.toNat * 11)), (
 h% H4 (H3.push (.cells #[Z%, Z%, Z%, Z%, .bool false, .bool false, .bool false, Z%, Z%, Z%, N%] t_api_Function (0, 0))) (
 okRow H4 &%H3 11 ∧ (
 h% H5 (wrs H4 &%H3 [I%x, I%x1, I%x2, I%x3, .bool x4, .bool x5, .bool x6, I%x7, I%x8, I%x9, S%x10]) (
 ∃ J_ : Addr → P%, (
 i% x11 H5 &%H3, (
 CallsP Tryz.prog n_help_Mod #[I%x11, I%(bridges.n : Int)] (fun v =>
 ∃ x12 : Int, v = I%x12 ∧ (
 x% x12 bridges a1 ((
 i% x13 H5 (a1.add (x12.toNat * 1)), (
 i% x14 H5 (+%H3 1), (
 CallsP Tryz.prog n_help_Mod #[I%x14, I%(8 : Int)] (fun v1 =>
 ∃ x15 : Int, v1 = I%x15 ∧ (
 i% x16 H5 (+%H3 2), (
 CallsP Tryz.prog n_help_Mod #[I%x16, I%(9 : Int)] (fun v2 =>
 ∃ x17 : Int, v2 = I%x17 ∧ (
 i% x18 H5 (+%H3 3), (
 CallsP Tryz.prog n_help_Mod #[I%x18, I%(9 : Int)] (fun v3 =>
 ∃ x19 : Int, v3 = I%x19 ∧ (
 b% x20 H5 (+%H3 4), (
 iteB x20 (
 i% x21 H5 (+%H3 8), (
 CallsP Tryz.prog n_help_Mod #[I%x21, I%(5 : Int)] (fun v4 =>
 ∃ x22 : Int, v4 = I%x22 ∧ (
 i% x23 H5 (+%H3 9), (
 CallsP Tryz.prog n_help_Mod #[I%x23, I%(6 : Int)] (fun v5 =>
 ∃ x24 : Int, v5 = I%x24 ∧ (
 (
 h% H6 (H5.push (.cells #[Z%, I%(1 : Int), I%(2 : Int), I%(4 : Int), I%(16 : Int), I%(32 : Int)] t_int (0, 0))) (
 Keeps H5 H6 [(&%H3, 1), ((a1.add (x12.toNat * 1)), 1), ((+%H3 1), 1), ((+%H3 2), 1), ((+%H3 3), 1), ((+%H3 4), 1), ((+%H3 8), 1), ((+%H3 9), 1)] ∧ (
 0 ≤ x24 ∧ x24 < (6 : Int) ∧ (i% x25 H6 ((&%H5).add (x24.toNat * 1)), (
 h% H7 (H6.push (.cells #[Z%, Z%, Z%, Z%, .bool false, .bool false, .bool false, Z%, Z%, Z%, N%] t_api_Function (0, 0))) (
 Keeps H6 H7 [(&%H3, 1), ((a1.add (x12.toNat * 1)), 1), ((+%H3 1), 1), ((+%H3 2), 1), ((+%H3 3), 1), ((+%H3 4), 1), ((+%H3 8), 1), ((+%H3 9), 1), (((&%H5).add (x24.toNat * 1)), 1)] ∧ (
 okRow H7 &%H6 11 ∧ (
 h% H8 (wrs H7 &%H6 [I%x13, I%x15, I%(W% ((1 : Int) + x17)), I%x19, .bool true, .bool false, .bool false, Z%, I%x22, I%x25, N%]) (
 J_ &%H6 H8))))))))) ∧ (
 h% H9 (H5.push (.cells #[Z%, Z%, Z%, Z%, .bool false, .bool false, .bool false, Z%, Z%, Z%, N%] t_api_Function (0, 0))) (
 Keeps H5 H9 [(&%H3, 1), ((a1.add (x12.toNat * 1)), 1), ((+%H3 1), 1), ((+%H3 2), 1), ((+%H3 3), 1), ((+%H3 4), 1), ((+%H3 8), 1), ((+%H3 9), 1)] ∧ (
 h% H10 (H9.push (.cells #[Z%, I%(1 : Int), I%(2 : Int), I%(4 : Int), I%(16 : Int), I%(32 : Int)] t_int (0, 0))) (
 Keeps H9 H10 [(&%H3, 1), ((a1.add (x12.toNat * 1)), 1), ((+%H3 1), 1), ((+%H3 2), 1), ((+%H3 3), 1), ((+%H3 4), 1), ((+%H3 8), 1), ((+%H3 9), 1)] ∧ (
 0 ≤ x24 ∧ x24 < (6 : Int) ∧ (i% x26 H10 ((&%H9).add (x24.toNat * 1)), (
 okRow H10 &%H5 11 ∧ (
 h% H11 (wrs H10 &%H5 [I%x13, I%x15, I%(W% ((1 : Int) + x17)), I%x19, .bool true, .bool false, .bool false, Z%, I%x22, I%x26, N%]) (
 J_ &%H5 H11)))))))))))))))) (
 i% x27 H5 (+%H3 2), (
 CallsP Tryz.prog n_help_Mod #[I%x27, I%(3 : Int)] (fun v6 =>
 ∃ x28 : Int, v6 = I%x28 ∧ (
 i% x29 H5 (+%H3 8), (
 CallsP Tryz.prog n_help_Mod #[I%x29, I%(5 : Int)] (fun v7 =>
 ∃ x30 : Int, v7 = I%x30 ∧ (
 i% x31 H5 (+%H3 9), (
 CallsP Tryz.prog n_help_Mod #[I%x31, I%(6 : Int)] (fun v8 =>
 ∃ x32 : Int, v8 = I%x32 ∧ (
 (
 h% H12 (H5.push (.cells #[Z%, I%(1 : Int), I%(2 : Int), I%(4 : Int), I%(16 : Int), I%(32 : Int)] t_int (0, 0))) (
 Keeps H5 H12 [(&%H3, 1), ((a1.add (x12.toNat * 1)), 1), ((+%H3 1), 1), ((+%H3 2), 1), ((+%H3 3), 1), ((+%H3 4), 1), ((+%H3 2), 1), ((+%H3 8), 1), ((+%H3 9), 1)] ∧ (
 0 ≤ x32 ∧ x32 < (6 : Int) ∧ (i% x33 H12 ((&%H5).add (x32.toNat * 1)), (
 h% H13 (H12.push (.cells #[Z%, Z%, Z%, Z%, .bool false, .bool false, .bool false, Z%, Z%, Z%, N%] t_api_Function (0, 0))) (
 Keeps H12 H13 [(&%H3, 1), ((a1.add (x12.toNat * 1)), 1), ((+%H3 1), 1), ((+%H3 2), 1), ((+%H3 3), 1), ((+%H3 4), 1), ((+%H3 2), 1), ((+%H3 8), 1), ((+%H3 9), 1), (((&%H5).add (x32.toNat * 1)), 1)] ∧ (
 okRow H13 &%H12 11 ∧ (
 h% H14 (wrs H13 &%H12 [I%x13, I%x15, I%(W% ((1 : Int) + x17)), I%x19, .bool (x28 == (0 : Int)), .bool false, .bool false, Z%, I%x30, I%x33, N%]) (
 J_ &%H12 H14))))))))) ∧ (
 h% H15 (H5.push (.cells #[Z%, Z%, Z%, Z%, .bool false, .bool false, .bool false, Z%, Z%, Z%, N%] t_api_Function (0, 0))) (
 Keeps H5 H15 [(&%H3, 1), ((a1.add (x12.toNat * 1)), 1), ((+%H3 1), 1), ((+%H3 2), 1), ((+%H3 3), 1), ((+%H3 4), 1), ((+%H3 2), 1), ((+%H3 8), 1), ((+%H3 9), 1)] ∧ (
 h% H16 (H15.push (.cells #[Z%, I%(1 : Int), I%(2 : Int), I%(4 : Int), I%(16 : Int), I%(32 : Int)] t_int (0, 0))) (
 Keeps H15 H16 [(&%H3, 1), ((a1.add (x12.toNat * 1)), 1), ((+%H3 1), 1), ((+%H3 2), 1), ((+%H3 3), 1), ((+%H3 4), 1), ((+%H3 2), 1), ((+%H3 8), 1), ((+%H3 9), 1)] ∧ (
 0 ≤ x32 ∧ x32 < (6 : Int) ∧ (i% x34 H16 ((&%H15).add (x32.toNat * 1)), (
 okRow H16 &%H5 11 ∧ (
 h% H17 (wrs H16 &%H5 [I%x13, I%x15, I%(W% ((1 : Int) + x17)), I%x19, .bool (x28 == (0 : Int)), .bool false, .bool false, Z%, I%x30, I%x34, N%]) (
 J_ &%H5 H17)))))))))))))))))))))))))))))))))))) ∧ (∀ g : Addr, ∀ H18 : Heap, J_ g H18 → F_gen_Topology_k4 H I_ M_ out bridges i H3 g H18)))))))) (
 R (S%out) H3)) (
 R (S%out) H3)
def F_gen_Topology (R : V%) (l : Sl) (most : Int) (H : Heap) : Prop :=
 h% H1 (H.push (.map #[] 0)) (
 h% H2 (H1.push (.cells #[I%(-1 : Int)] t_int (0, 0))) (
 ∃ I_ : Sl → Sl → Int → P%, ∃ M_ : Sl → Sl → Int → M%, I_ (Sl.mk none 0 0) (Sl.mk (some &%H1) 1 1) (0 : Int) H2 ∧ (∀ out bridges : Sl, ∀ i : Int, ∀ H3 : Heap, I_ out bridges i H3 → F_gen_Topology_r5 R H l most I_ M_ out bridges i H3)))
theorem F_gen_Topology_ok {R : V%} (l : Sl) (most : Int) {H : Heap} (h : F_gen_Topology R l most H) : CallsH Tryz.prog n_gen_Topology #[S%l, I%most] H R := wpF_ok Tryz.func20 (show wpF Tryz.prog Tryz.f20 [(5, N%), (7, N%), (8, I%0), (10, .pointer (some ⟨0, 0, none⟩)), (11, I%0)] [(9, [10], [0, 1, 5, 6, 7, 8, 9]), (18, [7, 11], [0, 1, 5, 6, 8, 9, 10]), (15, [], [0, 1, 5, 6, 7, 8, 9, 10, 11]), (17, [], [0, 1, 5, 6, 7, 8, 9, 10, 11])] [(5, [5, 7, 8], [0, 1, 6])] [9] _ H R = F_gen_Topology R l most H by kernel_rfl) h
def F_gen_Host_k1 (H3 : Heap) (I_ : Int → P%) (M_ : Int → M%) (i : Int) (H27 H31 : Heap) : Prop :=
 s% x22 H31 (+%H3 6), (
 ∃ x23 : Int, rd H31 &%H27 = some (.int .u32 x23) ∧ (
 h% H32 (H31.push (.cells #[.int .u32 x23] t_api_IntLink (0, 0))) (
 runH Tryz.prog (Builtin.append_ #[t_sl_api_IntLink, t_sl_api_IntLink] t_sl_api_IntLink #[S%x22, .slice (some &%H31) 1 1]) H32 (fun v8 H33 =>
 ∃ x24 : Sl, v8 = S%x24 ∧ (
 okRow H33 (+%H3 6) 1 ∧ (
 h% H34 (wrs H33 (+%H3 6) [S%x24]) (
 v% i1 (W% (i + (1 : Int))) (
 I_ i1 H34 ∧ M_ i1 H34 < M_ i H27))))))))
def F_gen_Host_r2 (H H3 : Heap) (J_2 : P%) (I_ : Int → P%) (M_ : Int → M%) (i : Int) (H27 : Heap) : Prop :=
 s% x18 H27 (+%H 6), (
 iteB (decide (i < (x18.n : Int))) (
 iteB (decide (i < (5 : Int))) (
 s% x19 H27 (+%H 6), (
 x% i x19 a ((
 ∃ x20 : Int, rd H27 (a.add (i.toNat * 1)) = some (.int .u32 x20) ∧ (
 h% H28 (H27.push (.cells #[.int .u32 (0 : Int)] t_api_IntLink (0, 0))) (
 okRow H28 &%H27 1 ∧ (
 h% H29 (wrs H28 &%H27 [.int .u32 x20]) (
 ∃ J_3 : P%, (
 ∃ x21 : Int, rd H29 &%H27 = some (.int .u32 x21) ∧ (
 iteB (x21 == (0 : Int)) (
 iteB ((i.tmod (2 : Int)) == (0 : Int)) (
 okRow H29 &%H27 1 ∧ (
 h% H30 (wrs H29 &%H27 [.int .u32 (7680 : Int)]) (
 J_3 H30))) (
 J_3 H29)) (
 J_3 H29))) ∧ (∀ H31 : Heap, J_3 H31 → F_gen_Host_k1 H3 I_ M_ i H27 H31))))))))) (
 J_2 H27)) (
 J_2 H27))
def F_gen_Host_r3 (H H3 : Heap) (J_4 : P%) (I_1 : Int → P%) (M_1 : Int → M%) (i2 : Int) (H36 : Heap) : Prop :=
 s% x25 H36 (+%H 7), (
 iteB (decide (i2 < (x25.n : Int))) (
 iteB (decide (i2 < (40 : Int))) (
 s% x26 H36 (+%H3 6), (
 iteB (decide ((x26.n : Int) > (0 : Int))) (
 s% x27 H36 (+%H3 7), (
 s% x28 H36 (+%H 7), (
 x% i2 x28 a1 ((
 i% x29 H36 (a1.add (i2.toNat * 3)), (
 CallsP Tryz.prog n_help_Mod #[I%x29, I%(8 : Int)] (fun v9 =>
 ∃ x30 : Int, v9 = I%x30 ∧ (
 s% x31 H36 (+%H 7), (
 x% i2 x31 a2 ((
 i% x32 H36 ((a2.add (i2.toNat * 3)).add 1), (
 CallsP Tryz.prog n_help_Mod #[I%x32, I%(4 : Int)] (fun v10 =>
 ∃ x33 : Int, v10 = I%x33 ∧ (
 s% x34 H36 (+%H 7), (
 x% i2 x34 a3 ((
 i% x35 H36 ((a3.add (i2.toNat * 3)).add 2), (
 s% x36 H36 (+%H3 6), (
 CallsP Tryz.prog n_help_Mod #[I%x35, I%(x36.n : Int)] (fun v11 =>
 ∃ x37 : Int, v11 = I%x37 ∧ (
 h% H37 (H36.push (.cells #[I%x30, I%(W% ((1 : Int) + x33)), I%x37] t_api_Route (0, 0))) (
 Keeps H36 H37 [((+%H3 7), 1)] ∧ (
 runH Tryz.prog (Builtin.append_ #[t_sl_api_Route, t_sl_api_Route] t_sl_api_Route #[S%x27, .slice (some &%H36) 1 1]) H37 (fun v12 H38 =>
 ∃ x38 : Sl, v12 = S%x38 ∧ (
 okRow H38 (+%H3 7) 1 ∧ (
 h% H39 (wrs H38 (+%H3 7) [S%x38]) (
 v% i3 (W% (i2 + (1 : Int))) (
 I_1 i3 H39 ∧ M_1 i3 H39 < M_1 i2 H36)))))))))))))))))))))))))))) (
 J_4 H36))) (
 J_4 H36)) (
 J_4 H36))
def F_gen_Host_r4 (R : V%) (H1 H3 : Heap) (I_2 : Int → P%) (M_2 : Int → M%) (i4 : Int) (H41 : Heap) : Prop :=
 iteB (decide (i4 < (32 : Int))) (
 s% x39 H41 (+%H3 6), (
 iteB (decide ((x39.n : Int) > (0 : Int))) (
 s% x40 H41 (+%H3 7), (
 s% x41 H41 (+%H3 6), (
 (x41.n : Int) ≠ 0 ∧ (
 h% H42 (H41.push (.cells #[I%(i4.tmod (8 : Int)), I%(W% ((1 : Int) + (W% (i4.tdiv (8 : Int))))), I%(i4.tmod (x41.n : Int))] t_api_Route (0, 0))) (
 Keeps H41 H42 [((+%H3 7), 1)] ∧ (
 runH Tryz.prog (Builtin.append_ #[t_sl_api_Route, t_sl_api_Route] t_sl_api_Route #[S%x40, .slice (some &%H41) 1 1]) H42 (fun v13 H43 =>
 ∃ x42 : Sl, v13 = S%x42 ∧ (
 okRow H43 (+%H3 7) 1 ∧ (
 h% H44 (wrs H43 (+%H3 7) [S%x42]) (
 v% i5 (W% (i4 + (1 : Int))) (
 I_2 i5 H44 ∧ M_2 i5 H44 < M_2 i4 H41))))))))))) (
 j% x43 x44 x45 x46 x47 x48 x49 x50 H41 &%H3, (
 okRow H41 &%H1 8 ∧ (
 h% H45 (wrs H41 &%H1 [I%x43, S%x44, S%x45, S%x46, S%x47, S%x48, S%x49, S%x50]) (
 j% r r1 r2 r3 r4 r5 r6 r7 H45 &%H1, (
 R ((g% r r1 r2 r3 r4 r5 r6 r7)) H45))))))) (
 j% x51 x52 x53 x54 x55 x56 x57 x58 H41 &%H3, (
 okRow H41 &%H1 8 ∧ (
 h% H46 (wrs H41 &%H1 [I%x51, S%x52, S%x53, S%x54, S%x55, S%x56, S%x57, S%x58]) (
 j% r8 r9 r10 r11 r12 r13 r14 r15 H46 &%H1, (
 R ((g% r8 r9 r10 r11 r12 r13 r14 r15)) H46)))))
def F_gen_Host_k5 (R : V%) (H1 H3 H40 : Heap) : Prop :=
 ∃ I_2 : Int → P%, ∃ M_2 : Int → M%, I_2 (0 : Int) H40 ∧ (∀ i4 : Int, ∀ H41 : Heap, I_2 i4 H41 → F_gen_Host_r4 R H1 H3 I_2 M_2 i4 H41)
def F_gen_Host_k6 (R : V%) (H H1 H3 H35 : Heap) : Prop :=
 ∃ J_4 : P%, (
 ∃ I_1 : Int → P%, ∃ M_1 : Int → M%, I_1 (0 : Int) H35 ∧ (∀ i2 : Int, ∀ H36 : Heap, I_1 i2 H36 → F_gen_Host_r3 H H3 J_4 I_1 M_1 i2 H36)) ∧ (∀ H40 : Heap, J_4 H40 → F_gen_Host_k5 R H1 H3 H40)
def F_gen_Host_k7 (R : V%) (H H1 H3 H26 : Heap) : Prop :=
 ∃ J_2 : P%, (
 ∃ I_ : Int → P%, ∃ M_ : Int → M%, I_ (0 : Int) H26 ∧ (∀ i : Int, ∀ H27 : Heap, I_ i H27 → F_gen_Host_r2 H H3 J_2 I_ M_ i H27)) ∧ (∀ H35 : Heap, J_2 H35 → F_gen_Host_k6 R H H1 H3 H35)
def F_gen_Host_k8 (R : V%) (H H1 H3 H8 : Heap) : Prop :=
 s% x4 H8 (+%H 1), (
 CallsH Tryz.prog n_gen_ranges #[S%x4, U%(4096 : Int), U%(65536 : Int), U%(1024 : Int), I%(3 : Int)] H8 (fun v2 H9 =>
 ∃ x5 : Sl, v2 = S%x5 ∧ (
 okRow H9 (+%H3 1) 1 ∧ (
 h% H10 (wrs H9 (+%H3 1) [S%x5]) (
 s% x6 H10 (+%H 2), (
 CallsH Tryz.prog n_gen_ranges #[S%x6, U%(16777216 : Int), U%(4294967296 : Int), U%(262144 : Int), I%(3 : Int)] H10 (fun v3 H11 =>
 ∃ x7 : Sl, v3 = S%x7 ∧ (
 okRow H11 (+%H3 2) 1 ∧ (
 h% H12 (wrs H11 (+%H3 2) [S%x7]) (
 s% x8 H12 (+%H 3), (
 CallsH Tryz.prog n_gen_ranges #[S%x8, U%(4294967296 : Int), U%(1099511627776 : Int), U%(268435456 : Int), I%(2 : Int)] H12 (fun v4 H13 =>
 ∃ x9 : Sl, v4 = S%x9 ∧ (
 okRow H13 (+%H3 3) 1 ∧ (
 h% H14 (wrs H13 (+%H3 3) [S%x9]) (
 s% x10 H14 (+%H 4), (
 CallsH Tryz.prog n_gen_ranges #[S%x10, U%(0 : Int), U%(65536 : Int), U%(256 : Int), I%(2 : Int)] H14 (fun v5 H15 =>
 ∃ x11 : Sl, v5 = S%x11 ∧ (
 okRow H15 (+%H3 4) 1 ∧ (
 h% H16 (wrs H15 (+%H3 4) [S%x11]) (
 s% x12 H16 (+%H 5), (
 CallsH Tryz.prog n_gen_ranges #[S%x12, U%(0 : Int), U%(4294967296 : Int), U%(65536 : Int), I%(2 : Int)] H16 (fun v6 H17 =>
 ∃ x13 : Sl, v6 = S%x13 ∧ (
 okRow H17 (+%H3 5) 1 ∧ (
 h% H18 (wrs H17 (+%H3 5) [S%x13]) (
 ∃ J_1 : P%, (
 i% x14 H18 &%H, (
 CallsH Tryz.prog n_help_Mod #[I%x14, I%(3 : Int)] H18 (fun v7 H19 =>
 ∃ x15 : Int, v7 = I%x15 ∧ (
 iteB (decide (x15 > (0 : Int))) (
 s% x16 H19 (+%H3 4), (
 0 ≤ (0 : Int) ∧ (0 : Int) ≤ (x16.c : Int) ∧ (
 h% H20 (H19.push (.cells #[U%(4096 : Int), U%(61440 : Int)] t_api_Range (0, 0))) (
 Keeps H19 H20 [((+%H3 4), 1)] ∧ (
 okRow H20 (+%H3 1) 1 ∧ (
 h% H21 (wrs H20 (+%H3 1) [.slice (some &%H19) 1 1]) (
 okRow H21 (+%H3 4) 1 ∧ (
 h% H22 (wrs H21 (+%H3 4) [.slice (slP x16.p x16.c 0 2) ((0 : Int).toNat - 0) (x16.c - 0)]) (
 s% x17 H22 (+%H3 5), (
 0 ≤ (0 : Int) ∧ (0 : Int) ≤ (x17.c : Int) ∧ (
 h% H23 (H22.push (.cells #[U%(268435456 : Int), U%(4026531840 : Int)] t_api_Range (0, 0))) (
 Keeps H22 H23 [((+%H3 5), 1)] ∧ (
 okRow H23 (+%H3 2) 1 ∧ (
 h% H24 (wrs H23 (+%H3 2) [.slice (some &%H22) 1 1]) (
 okRow H24 (+%H3 5) 1 ∧ (
 h% H25 (wrs H24 (+%H3 5) [.slice (slP x17.p x17.c 0 2) ((0 : Int).toNat - 0) (x17.c - 0)]) (
 J_1 H25))))))))))))))))) (
 J_1 H19))))) ∧ (∀ H26 : Heap, J_1 H26 → F_gen_Host_k7 R H H1 H3 H26))))))))))))))))))))))))))
def F_gen_Host (R : V%) (h_0 : Int) (h_1 h_2 h_3 h_4 h_5 h_6 h_7 : Sl) (H : Heap) : Prop :=
 h% H1 (H.push (.cells #[I%h_0, S%h_1, S%h_2, S%h_3, S%h_4, S%h_5, S%h_6, S%h_7] t_api_Host (0, 0))) (
 h% H2 (H1.push (.cells #[Z%, N%, N%, N%, N%, N%, N%, N%] t_api_Host (0, 0))) (
 i% x H2 &%H, (
 CallsH Tryz.prog n_help_Mod #[I%x, I%(40 : Int)] H2 (fun v H3 =>
 ∃ x1 : Int, v = I%x1 ∧ (
 h% H4 (H3.push (.cells #[Z%, N%, N%, N%, N%, N%, N%, N%] t_api_Host (0, 0))) (
 okRow H4 &%H3 8 ∧ (
 h% H5 (wrs H4 &%H3 [I%(W% ((1 : Int) + x1)), N%, N%, N%, N%, N%, N%, N%]) (
 ∃ J_ : P%, (
 i% x2 H5 &%H, (
 CallsH Tryz.prog n_help_Mod #[I%x2, I%(5 : Int)] H5 (fun v1 H6 =>
 ∃ x3 : Int, v1 = I%x3 ∧ (
 iteB (decide (x3 > (0 : Int))) (
 okRow H6 &%H3 1 ∧ (
 h% H7 (wrs H6 &%H3 [I%(256 : Int)]) (
 J_ H7))) (
 J_ H6))))) ∧ (∀ H8 : Heap, J_ H8 → F_gen_Host_k8 R H H1 H3 H8)))))))))
theorem F_gen_Host_ok {R : V%} (h_0 : Int) (h_1 h_2 h_3 h_4 h_5 h_6 h_7 : Sl) {H : Heap} (h : F_gen_Host R h_0 h_1 h_2 h_3 h_4 h_5 h_6 h_7 H) : CallsH Tryz.prog n_gen_Host #[(g% h_0 h_1 h_2 h_3 h_4 h_5 h_6 h_7)] H R := wpF_ok Tryz.func21 (show wpF Tryz.prog Tryz.f21 [(4, I%0), (6, I%0), (7, I%0)] [(4, [], [1, 2, 3]), (12, [], [1, 2, 3]), (19, [], [1, 2, 3]), (18, [], [1, 2, 3, 4, 5]), (23, [], [2, 3])] [(13, [4], [1, 2, 3]), (20, [6], [1, 2, 3]), (24, [7], [2, 3])] [9] _ H R = F_gen_Host R h_0 h_1 h_2 h_3 h_4 h_5 h_6 h_7 H by kernel_rfl) h
def F_ref21_Assign_r1 (l : Sl) (H7 : Heap) (x12 : Sl) (I_2 : Int → P%) (M_2 : Int → M%) (i2 : Int) (H18 : Heap) (I_3 : Int → P%) (M_3 : Int → M%) (classv2 : Int) (H19 : Heap) : Prop :=
 iteB (decide (classv2 < (3 : Int))) (
 CallsH Tryz.prog n_ref21_at #[.slice (some &%H7) ((x12.n : Int).toNat) ((x12.n : Int).toNat), I%i2, I%(W% ((-1 : Int) - classv2))] H19 (fun v5 H20 =>
 ∃ w : Int, v5 = I%w ∧ (
 iteB (decide (w ≥ (0 : Int))) (
 0 ≤ w ∧ w < (((x12.n : Int).toNat : Nat) : Int) ∧ (u% x36 H20 (((&%H7).add (w.toNat * 5)).add 4), (
 0 ≤ w ∧ w < (((x12.n : Int).toNat : Nat) : Int) ∧ (i% x37 H20 (((&%H7).add (w.toNat * 5)).add 3), (
 0 ≤ (w% x37) ∧ (
 h% H21 (H20.push (.cells #[U%x36, U%(w% ((1 : Int) * 2 ^ (min (w% x37).toNat IntKind.u64.bits)))] t_api_Range (0, 0))) (
 CallsH Tryz.prog n_ref21_place #[S%l, .slice (some &%H7) ((x12.n : Int).toNat) ((x12.n : Int).toNat), S%x12, I%i2, I%classv2, .slice (some &%H20) 1 1] H21 (fun v6 H22 =>
 ∃ x38 x39 : Int, ∃ x40 x41 x42 : Int, v6 = .tuple #[.agg #[I%x38, I%x39, U%x40, U%x41], I%x42] ∧ (
 v% classv3 (W% (classv2 + (1 : Int))) (
 I_3 classv3 H22 ∧ M_3 classv3 H22 < M_3 classv2 H19)))))))))) (
 v% classv4 (W% (classv2 + (1 : Int))) (
 I_3 classv4 H20 ∧ M_3 classv4 H20 < M_3 classv2 H19))))) (
 v% i3 (W% (i2 + (1 : Int))) (
 I_2 i3 H19 ∧ M_2 i3 H19 < M_2 i2 H18))
def F_ref21_Assign_r2 (R : V%) (l : Sl) (H1 H7 : Heap) (x12 : Sl) (I_2 : Int → P%) (M_2 : Int → M%) (i2 : Int) (H18 : Heap) : Prop :=
 iteB (decide (i2 < (l.n : Int))) (
 ∃ I_3 : Int → P%, ∃ M_3 : Int → M%, I_3 (0 : Int) H18 ∧ (∀ classv2 : Int, ∀ H19 : Heap, I_3 classv2 H19 → F_ref21_Assign_r1 l H7 x12 I_2 M_2 i2 H18 I_3 M_3 classv2 H19)) (
 okRow H18 &%H1 4 ∧ (
 h% H23 (wrs H18 &%H1 [Z%, Z%, U%(0 : Int), U%(0 : Int)]) (
 i% r12 H23 &%H1, i% r13 H23 (+%H1 1), u% r14 H23 (+%H1 2), u% r15 H23 (+%H1 3), (
 R (.tuple #[.slice (some &%H7) ((x12.n : Int).toNat) ((x12.n : Int).toNat), .agg #[I%r12, I%r13, U%r14, U%r15], Z%]) H23))))
def F_ref21_Assign_r3 (R : V%) (H : Heap) (l : Sl) (H1 H7 : Heap) (x12 : Sl) (I_1 : Int → P%) (M_1 : Int → M%) (classv : Int) (H12 : Heap) : Prop :=
 iteB (decide (classv < (3 : Int))) (
 j% x18 x19 x20 x21 x22 x23 x24 x25 H12 &%H, (
 CallsH Tryz.prog n_ref21_Space #[(g% x18 x19 x20 x21 x22 x23 x24 x25), I%classv] H12 (fun v3 H13 =>
 ∃ x26 : Sl, v3 = S%x26 ∧ (
 CallsH Tryz.prog n_ref21_place #[S%l, .slice (some &%H7) ((x12.n : Int).toNat) ((x12.n : Int).toNat), S%x12, I%(-1 : Int), I%classv, S%x26] H13 (fun v4 H14 =>
 ∃ x27 x28 : Int, ∃ x29 x30 x31 : Int, v4 = .tuple #[.agg #[I%x27, I%x28, U%x29, U%x30], I%x31] ∧ (
 h% H15 (H14.push (.cells #[Z%, Z%, U%(0 : Int), U%(0 : Int)] t_api_Certificate (0, 0))) (
 okRow H15 &%H14 4 ∧ (
 h% H16 (wrs H15 &%H14 [I%x27, I%x28, U%x29, U%x30]) (
 iteB (x31 != (0 : Int)) (
 i% x32 H16 &%H14, i% x33 H16 (+%H14 1), u% x34 H16 (+%H14 2), u% x35 H16 (+%H14 3), (
 okRow H16 &%H1 4 ∧ (
 h% H17 (wrs H16 &%H1 [I%x32, I%x33, U%x34, U%x35]) (
 i% r8 H17 &%H1, i% r9 H17 (+%H1 1), u% r10 H17 (+%H1 2), u% r11 H17 (+%H1 3), (
 R (.tuple #[N%, .agg #[I%r8, I%r9, U%r10, U%r11], I%x31]) H17))))) (
 v% classv1 (W% (classv + (1 : Int))) (
 I_1 classv1 H16 ∧ M_1 classv1 H16 < M_1 classv H12))))))))))) (
 ∃ I_2 : Int → P%, ∃ M_2 : Int → M%, I_2 (0 : Int) H12 ∧ (∀ i2 : Int, ∀ H18 : Heap, I_2 i2 H18 → F_ref21_Assign_r2 R l H1 H7 x12 I_2 M_2 i2 H18))
def F_ref21_Assign_r4 (R : V%) (H : Heap) (l : Sl) (H1 H7 : Heap) (x12 : Sl) (I_ : Int → P%) (M_ : Int → M%) (i : Int) (H10 : Heap) : Prop :=
 iteB (decide (i < (x12.n : Int))) (
 x% i x12 a ((
 i% x14 H10 (a.add (i.toNat * 4)), i% x15 H10 ((a.add (i.toNat * 4)).add 1), i% x16 H10 ((a.add (i.toNat * 4)).add 2), i% x17 H10 ((a.add (i.toNat * 4)).add 3), (
 0 ≤ i ∧ i < (((x12.n : Int).toNat : Nat) : Int) ∧ (okRow H10 ((&%H7).add (i.toNat * 5)) 4 ∧ (
 h% H11 (wrs H10 ((&%H7).add (i.toNat * 5)) [I%x14, I%x15, I%x16, I%x17]) (
 v% i1 (W% (i + (1 : Int))) (
 I_ i1 H11 ∧ M_ i1 H11 < M_ i H10)))))))) (
 ∃ I_1 : Int → P%, ∃ M_1 : Int → M%, I_1 (0 : Int) H10 ∧ (∀ classv : Int, ∀ H12 : Heap, I_1 classv H12 → F_ref21_Assign_r3 R H l H1 H7 x12 I_1 M_1 classv H12))
def F_ref21_Assign_k5 (R : V%) (H : Heap) (l : Sl) (H1 : Heap) (x10 : Bool) (H5 : Heap) : Prop :=
 iteB x10 (
 okRow H5 &%H1 4 ∧ (
 h% H6 (wrs H5 &%H1 [Z%, Z%, U%(0 : Int), U%(0 : Int)]) (
 i% r H6 &%H1, i% r1 H6 (+%H1 1), u% r2 H6 (+%H1 2), u% r3 H6 (+%H1 3), (
 R (.tuple #[N%, .agg #[I%r, I%r1, U%r2, U%r3], I%(1 : Int)]) H6)))) (
 s% x11 H5 (+%H 3), (
 CallsH Tryz.prog n_ref18_Needs #[S%l, .bool (decide ((x11.n : Int) > (0 : Int)))] H5 (fun v2 H7 =>
 ∃ x12 : Sl, ∃ x13 : Int, v2 = .tuple #[S%x12, I%x13] ∧ (
 iteB (x13 != (0 : Int)) (
 okRow H7 &%H1 4 ∧ (
 h% H8 (wrs H7 &%H1 [Z%, Z%, U%(0 : Int), U%(0 : Int)]) (
 i% r4 H8 &%H1, i% r5 H8 (+%H1 1), u% r6 H8 (+%H1 2), u% r7 H8 (+%H1 3), (
 R (.tuple #[N%, .agg #[I%r4, I%r5, U%r6, U%r7], I%x13]) H8)))) (
 0 ≤ (x12.n : Int) ∧ (x12.n : Int) ≤ (x12.n : Int) ∧ (x12.n : Int) * ((40 : Nat) : Int) ≤ 281474976710656 ∧ (
 h% H9 (H7.push (.cells (zeroRow (.agg #[Z%, Z%, Z%, Z%, U%(0 : Int)]) (x12.n : Int).toNat) t_api_Assignment (0, 0))) (
 ∃ I_ : Int → P%, ∃ M_ : Int → M%, I_ (0 : Int) H9 ∧ (∀ i : Int, ∀ H10 : Heap, I_ i H10 → F_ref21_Assign_r4 R H l H1 H7 x12 I_ M_ i H10))))))))
def F_ref21_Assign (R : V%) (l : Sl) (h_0 : Int) (h_1 h_2 h_3 h_4 h_5 h_6 h_7 : Sl) (H : Heap) : Prop :=
 h% H1 (H.push (.cells #[I%h_0, S%h_1, S%h_2, S%h_3, S%h_4, S%h_5, S%h_6, S%h_7] t_api_Host (0, 0))) (
 h% H2 (H1.push (.cells #[Z%, Z%, U%(0 : Int), U%(0 : Int)] t_api_Certificate (0, 0))) (
 ∃ J_ : Bool → P%, (
 CallsH Tryz.prog n_ref18_Valid #[S%l] H2 (fun v H3 =>
 ∃ x : Bool, v = .bool x ∧ (
 iteB (!x) (
 J_ true H3) (
 j% x1 x2 x3 x4 x5 x6 x7 x8 H3 &%H, (
 CallsH Tryz.prog n_ref21_ValidHost #[(g% x1 x2 x3 x4 x5 x6 x7 x8)] H3 (fun v1 H4 =>
 ∃ x9 : Bool, v1 = .bool x9 ∧ (
 J_ (!x9) H4))))))) ∧ (∀ x10 : Bool, ∀ H5 : Heap, J_ x10 H5 → F_ref21_Assign_k5 R H l H1 x10 H5)))
theorem F_ref21_Assign_ok {R : V%} (l : Sl) (h_0 : Int) (h_1 h_2 h_3 h_4 h_5 h_6 h_7 : Sl) {H : Heap} (h : F_ref21_Assign R l h_0 h_1 h_2 h_3 h_4 h_5 h_6 h_7 H) : CallsH Tryz.prog n_ref21_Assign #[S%l, (g% h_0 h_1 h_2 h_3 h_4 h_5 h_6 h_7)] H R := wpF_ok Tryz.func22 (show wpF Tryz.prog Tryz.f22 [(10, I%0), (11, I%0), (14, I%0), (15, I%0), (24, .bool false)] [(2, [24], [0, 3, 5])] [(8, [10], [0, 3, 5, 7, 9]), (12, [11], [0, 3, 5, 7, 9]), (18, [14], [0, 5, 7, 9]), (21, [15], [0, 5, 7, 9, 14])] [9] _ H R = F_ref21_Assign R l h_0 h_1 h_2 h_3 h_4 h_5 h_6 h_7 H by kernel_rfl) h
def F_ref21_Add_k1 (R : V%) (l : Sl) (p : Int) (H5 : Heap) (J_ : P%) (x18 : Bool) (H10 : Heap) : Prop :=
 iteB x18 (
 R (.tuple #[N%, I%(1 : Int)]) H10) (
 i% x19 H10 &%H5, (
 iteB (x19 == (-1 : Int)) (
 okRow H10 &%H5 1 ∧ (
 h% H11 (wrs H10 &%H5 [I%p]) (
 J_ H11))) (
 i% x20 H10 &%H5, (
 okRow H10 &%H5 1 ∧ (
 h% H12 (wrs H10 &%H5 [I%(W% (x20 + (l.n : Int)))]) (
 J_ H12))))))
def F_ref21_Add_k2 (I_ : Sl → Int → P%) (M_ : Sl → Int → M%) (out1 : Sl) (i : Int) (H5 H13 : Heap) : Prop :=
 f% x21 x22 x23 x24 x25 x26 x27 x28 x29 x30 x31 H13 &%H5, (
 h% H14 (H13.push (.cells #[I%x21, I%x22, I%x23, I%x24, .bool x25, .bool x26, .bool x27, I%x28, I%x29, I%x30, S%x31] t_api_Function (0, 0))) (
 runH Tryz.prog (Builtin.append_ #[t_sl_api_Function, t_sl_api_Function] t_sl_api_Function #[S%out1, .slice (some &%H13) 1 1]) H14 (fun v5 H15 =>
 ∃ out2 : Sl, v5 = S%out2 ∧ (
 v% i1 (W% (i + (1 : Int))) (
 I_ out2 i1 H15 ∧ M_ out2 i1 H15 < M_ out1 i H5)))))
def F_ref21_Add_r3 (R : V%) (l : Sl) (p : Int) (card : Sl) (I_ : Sl → Int → P%) (M_ : Sl → Int → M%) (out1 : Sl) (i : Int) (H5 : Heap) : Prop :=
 iteB (decide (i < (card.n : Int))) (
 x% i card a ((
 f% x3 x4 x5 x6 x7 x8 x9 x10 x11 x12 x13 H5 (a.add (i.toNat * 11)), (
 h% H6 (H5.push (.cells #[Z%, Z%, Z%, Z%, .bool false, .bool false, .bool false, Z%, Z%, Z%, N%] t_api_Function (0, 0))) (
 okRow H6 &%H5 11 ∧ (
 h% H7 (wrs H6 &%H5 [I%x3, I%x4, I%x5, I%x6, .bool x7, .bool x8, .bool x9, I%x10, I%x11, I%x12, S%x13]) (
 s% x14 H7 (+%H5 10), (
 runH Tryz.prog (Builtin.append_ #[t_sl_api_Bar, t_sl_api_Bar] t_sl_api_Bar #[N%, S%x14]) H7 (fun v4 H8 =>
 ∃ x15 : Sl, v4 = S%x15 ∧ (
 okRow H8 (+%H5 10) 1 ∧ (
 h% H9 (wrs H8 (+%H5 10) [S%x15]) (
 ∃ J_ : P%, (
 ∃ J_1 : Bool → P%, (
 i% x16 H9 &%H5, (
 iteB (decide (x16 < (-1 : Int))) (
 J_1 true H9) (
 i% x17 H9 &%H5, (
 J_1 (decide (x17 ≥ i)) H9)))) ∧ (∀ x18 : Bool, ∀ H10 : Heap, J_1 x18 H10 → F_ref21_Add_k1 R l p H5 J_ x18 H10)) ∧ (∀ H13 : Heap, J_ H13 → F_ref21_Add_k2 I_ M_ out1 i H5 H13))))))))))))) (
 CallsH Tryz.prog n_ref18_Valid #[S%out1] H5 (fun v6 H16 =>
 ∃ x32 : Bool, v6 = .bool x32 ∧ (
 iteB (!x32) (
 R (.tuple #[N%, I%(1 : Int)]) H16) (
 R (.tuple #[S%out1, Z%]) H16))))
def F_ref21_Add (R : V%) (l : Sl) (p : Int) (card : Sl) (H : Heap) : Prop :=
 CallsH Tryz.prog n_ref18_Valid #[S%l] H (fun v H1 =>
 ∃ x : Bool, v = .bool x ∧ (
 iteB (!x) (
 R (.tuple #[N%, I%(1 : Int)]) H1) (
 CallsH Tryz.prog n_ref21_port #[S%l, I%p] H1 (fun v1 H2 =>
 ∃ x1 : Bool, v1 = .bool x1 ∧ (
 iteB (!x1) (
 R (.tuple #[N%, I%(6 : Int)]) H2) (
 CallsH Tryz.prog n_ref18_Below #[S%l, I%p] H2 (fun v2 H3 =>
 ∃ x2 : Sl, v2 = S%x2 ∧ (
 iteB (decide ((x2.n : Int) > (0 : Int))) (
 R (.tuple #[N%, I%(17 : Int)]) H3) (
 runH Tryz.prog (Builtin.append_ #[t_sl_api_Function, t_sl_api_Function] t_sl_api_Function #[N%, S%l]) H3 (fun v3 H4 =>
 ∃ out : Sl, v3 = S%out ∧ (
 ∃ I_ : Sl → Int → P%, ∃ M_ : Sl → Int → M%, I_ out (0 : Int) H4 ∧ (∀ out1 : Sl, ∀ i : Int, ∀ H5 : Heap, I_ out1 i H5 → F_ref21_Add_r3 R l p card I_ M_ out1 i H5))))))))))))
theorem F_ref21_Add_ok {R : V%} (l : Sl) (p : Int) (card : Sl) {H : Heap} (h : F_ref21_Add R l p card H) : CallsH Tryz.prog n_ref21_Add #[S%l, I%p, S%card] H R := wpF_ok Tryz.func23 (show wpF Tryz.prog Tryz.f23 [(8, N%), (9, I%0), (45, .bool false)] [(18, [], [0, 1, 2, 8, 9, 10]), (15, [45], [0, 1, 2, 8, 9, 10])] [(9, [8, 9], [0, 1, 2])] [9] _ H R = F_ref21_Add R l p card H by kernel_rfl) h
def F_law23_port_r1 (R : V%) (t : Sl) (atv : Int) (I_ : Sl → Int → P%) (M_ : Sl → Int → M%) (l : Sl) (i : Int) (H1 : Heap) : Prop :=
 iteB (decide (i < (t.n : Int))) (
 x% i t a ((
 b% x H1 ((a.add (i.toNat * 11)).add 6), (
 iteB x (
 h% H2 (H1.push (.cells #[I%i] t_int (0, 0))) (
 runH Tryz.prog (Builtin.append_ #[t_sl_int, t_sl_int] t_sl_int #[S%l, .slice (some &%H1) 1 1]) H2 (fun v H3 =>
 ∃ l1 : Sl, v = S%l1 ∧ (
 v% i1 (W% (i + (1 : Int))) (
 I_ l1 i1 H3 ∧ M_ l1 i1 H3 < M_ l i H1))))) (
 v% i2 (W% (i + (1 : Int))) (
 I_ l i2 H1 ∧ M_ l i2 H1 < M_ l i H1)))))) (
 iteB ((l.n : Int) == (0 : Int)) (
 R (I%(-1 : Int)) H1) (
 CallsH Tryz.prog n_help_Mod #[I%atv, I%(l.n : Int)] H1 (fun v1 H4 =>
 ∃ x1 : Int, v1 = I%x1 ∧ (
 x% x1 l a1 ((
 i% x2 H4 (a1.add (x1.toNat * 1)), (
 R (I%x2) H4)))))))
def F_law23_port (R : V%) (t : Sl) (atv : Int) (H : Heap) : Prop :=
 ∃ I_ : Sl → Int → P%, ∃ M_ : Sl → Int → M%, I_ (Sl.mk none 0 0) (0 : Int) H ∧ (∀ l : Sl, ∀ i : Int, ∀ H1 : Heap, I_ l i H1 → F_law23_port_r1 R t atv I_ M_ l i H1)
theorem F_law23_port_ok {R : V%} (t : Sl) (atv : Int) {H : Heap} (h : F_law23_port R t atv H) : CallsH Tryz.prog n_law23_port #[S%t, I%atv] H R := wpF_ok Tryz.func24 (show wpF Tryz.prog Tryz.f24 [(5, N%), (6, I%0)] [] [(3, [5, 6], [0, 1])] [9] _ H R = F_law23_port R t atv H by kernel_rfl) h
def F_law23_card (R : V%) (l : Sl) (H : Heap) : Prop :=
 CallsH Tryz.prog n_gen_Topology #[S%l, I%(5 : Int)] H (fun v H1 =>
 ∃ x : Sl, v = S%x ∧ (
 R (S%x) H1))
theorem F_law23_card_ok {R : V%} (l : Sl) {H : Heap} (h : F_law23_card R l H) : CallsH Tryz.prog n_law23_card #[S%l] H R := wpF_ok Tryz.func25 (show wpF Tryz.prog Tryz.f25 [] [] [] [9] _ H R = F_law23_card R l H by kernel_rfl) h
def F_hotplug_validPlan_r1 (R : V%) (l : Sl) (n : Int) (I_ : Int → P%) (M_ : Int → M%) (x10 : Int) (H4 : Heap) : Prop :=
 iteB (decide (x10 < (((l.n - n.toNat) : Nat) : Int))) (
 0 ≤ x10 ∧ x10 < (((l.n - n.toNat) : Nat) : Int) ∧ (unSome (slP l.p l.c n.toNat 11) (fun a =>
 f% x11 x12 x13 x14 x15 x16 x17 x18 x19 x20 x21 H4 (a.add (x10.toNat * 11)), (
 h% H5 (H4.push (.cells #[Z%, Z%, Z%, Z%, .bool false, .bool false, .bool false, Z%, Z%, Z%, N%] t_api_Function (0, 0))) (
 okRow H5 &%H4 11 ∧ (
 h% H6 (wrs H5 &%H4 [I%x11, I%x12, I%x13, I%x14, .bool x15, .bool x16, .bool x17, I%x18, I%x19, I%x20, S%x21]) (
 i% x22 H6 &%H4, (
 iteB (decide (x22 < n)) (
 i% x23 H6 &%H4, (
 CallsH Tryz.prog n_hotplug_isPort #[S%l, I%x23] H6 (fun v2 H7 =>
 ∃ x24 : Bool, v2 = .bool x24 ∧ (
 iteB (!x24) (
 R (.bool false) H7) (
 I_ (W% (x10 + (1 : Int))) H7 ∧ M_ (W% (x10 + (1 : Int))) H7 < M_ x10 H4))))) (
 I_ (W% (x10 + (1 : Int))) H6 ∧ M_ (W% (x10 + (1 : Int))) H6 < M_ x10 H4))))))))) (
 R (.bool true) H4)
def F_hotplug_validPlan (R : V%) (l : Sl) (h_0 : Int) (h_1 h_2 h_3 h_4 h_5 h_6 h_7 : Sl) (n : Int) (H : Heap) : Prop :=
 h% H1 (H.push (.cells #[I%h_0, S%h_1, S%h_2, S%h_3, S%h_4, S%h_5, S%h_6, S%h_7] t_api_Host (0, 0))) (
 CallsH Tryz.prog n_enumerate_Valid #[S%l] H1 (fun v H2 =>
 ∃ x : Bool, v = .bool x ∧ (
 iteB (!x) (
 R (.bool false) H2) (
 j% x1 x2 x3 x4 x5 x6 x7 x8 H2 &%H, (
 CallsH Tryz.prog n_allocate_ValidHost #[(g% x1 x2 x3 x4 x5 x6 x7 x8)] H2 (fun v1 H3 =>
 ∃ x9 : Bool, v1 = .bool x9 ∧ (
 iteB (!x9) (
 R (.bool false) H3) (
 iteB (decide (n < (0 : Int))) (
 R (.bool false) H3) (
 iteB (decide (n > (l.n : Int))) (
 R (.bool false) H3) (
 0 ≤ n ∧ n ≤ (l.n : Int) ∧ (
 ∃ I_ : Int → P%, ∃ M_ : Int → M%, I_ (0 : Int) H3 ∧ (∀ x10 : Int, ∀ H4 : Heap, I_ x10 H4 → F_hotplug_validPlan_r1 R l n I_ M_ x10 H4))))))))))))
theorem F_hotplug_validPlan_ok {R : V%} (l : Sl) (h_0 : Int) (h_1 h_2 h_3 h_4 h_5 h_6 h_7 : Sl) (n : Int) {H : Heap} (h : F_hotplug_validPlan R l h_0 h_1 h_2 h_3 h_4 h_5 h_6 h_7 n H) : CallsH Tryz.prog n_hotplug_validPlan #[S%l, (g% h_0 h_1 h_2 h_3 h_4 h_5 h_6 h_7), I%n] H R := wpF_ok Tryz.func26 (show wpF Tryz.prog Tryz.f26 [(31, I%0)] [] [(4, [31], [0, 2, 29, 30])] [9] _ H R = F_hotplug_validPlan R l h_0 h_1 h_2 h_3 h_4 h_5 h_6 h_7 n H by kernel_rfl) h
def F_resources_Needs_r1 (R : V%) (l : Sl) (H2 : Heap) (I_ : Int → P%) (M_ : Int → M%) (i1 : Int) (H4 : Heap) (x7 : Sl) (I_1 : Int → P%) (M_1 : Int → M%) (x8 : Int) (H9 : Heap) : Prop :=
 iteB (decide (x8 < (x7.n : Int))) (
 x% x8 x7 a ((
 i% x9 H9 (a.add (x8.toNat * 4)), i% x10 H9 ((a.add (x8.toNat * 4)).add 1), i% x11 H9 ((a.add (x8.toNat * 4)).add 2), i% x12 H9 ((a.add (x8.toNat * 4)).add 3), (
 h% H10 (H9.push (.cells #[Z%, Z%, Z%, Z%] t_api_Need (0, 0))) (
 okRow H10 &%H9 4 ∧ (
 h% H11 (wrs H10 &%H9 [I%x9, I%x10, I%x11, I%x12]) (
 i% x13 H11 (+%H9 3), (
 i% x14 H11 (+%H9 2), (
 CallsH Tryz.prog n_resources_largest #[I%x14] H11 (fun v4 H12 =>
 ∃ x15 : Int, v4 = I%x15 ∧ (
 Keeps H11 H12 [((+%H9 3), 1)] ∧ (
 iteB (decide (x13 > x15)) (
 R (.tuple #[N%, I%(11 : Int)]) H12) (
 x% i1 l a1 ((
 i% parent H12 (a1.add (i1.toNat * 11)), (
 iteB (decide (parent ≥ (0 : Int))) (
 i% x16 H12 (+%H9 2), (
 i% x17 H12 (+%H9 2), (
 0 ≤ parent ∧ parent < (((l.n : Int).toNat : Nat) : Int) ∧ (0 ≤ x17 ∧ x17 < ((3 : Nat) : Int) ∧ (s% x18 H12 (((&%H2).add (parent.toNat * 3)).add (x17.toNat * 1)), (
 i% x19 H12 (+%H9 3), (
 0 ≤ parent ∧ parent < (((l.n : Int).toNat : Nat) : Int) ∧ (h% H13 (H12.push (.cells #[I%x19] t_int (0, 0))) (
 Keeps H12 H13 [((+%H9 2), 1), ((+%H9 2), 1), ((((&%H2).add (parent.toNat * 3)).add (x17.toNat * 1)), 1)] ∧ (
 runH Tryz.prog (Builtin.append_ #[t_sl_int, t_sl_int] t_sl_int #[S%x18, .slice (some &%H12) 1 1]) H13 (fun v5 H14 =>
 ∃ x20 : Sl, v5 = S%x20 ∧ (
 Keeps H13 H14 [((+%H9 2), 1)] ∧ (
 0 ≤ x16 ∧ x16 < ((3 : Nat) : Int) ∧ (okRow H14 (((&%H2).add (parent.toNat * 3)).add (x16.toNat * 1)) 1 ∧ (
 h% H15 (wrs H14 (((&%H2).add (parent.toNat * 3)).add (x16.toNat * 1)) [S%x20]) (
 I_1 (W% (x8 + (1 : Int))) H15 ∧ M_1 (W% (x8 + (1 : Int))) H15 < M_1 x8 H9)))))))))))))))) (
 I_1 (W% (x8 + (1 : Int))) H12 ∧ M_1 (W% (x8 + (1 : Int))) H12 < M_1 x8 H9))))))))))))))))) (
 v% i2 (W% (i1 - (1 : Int))) (
 I_ i2 H9 ∧ M_ i2 H9 < M_ i1 H4))
def F_resources_Needs_r2 (R : V%) (l : Sl) (H1 : Heap) (I_2 : Sl → Int → P%) (M_2 : Sl → Int → M%) (needs : Sl) (x21 : Int) (H16 : Heap) : Prop :=
 iteB (decide (x21 < (((l.n : Int).toNat : Nat) : Int))) (
 0 ≤ x21 ∧ x21 < (((l.n : Int).toNat : Nat) : Int) ∧ (s% part H16 ((&%H1).add (x21.toNat * 1)), (
 runH Tryz.prog (Builtin.append_ #[t_sl_api_Need, t_sl_api_Need] t_sl_api_Need #[S%needs, S%part]) H16 (fun v6 H17 =>
 ∃ needs1 : Sl, v6 = S%needs1 ∧ (
 I_2 needs1 (W% (x21 + (1 : Int))) H17 ∧ M_2 needs1 (W% (x21 + (1 : Int))) H17 < M_2 needs x21 H16))))) (
 R (.tuple #[S%needs, Z%]) H16)
def F_resources_Needs_r3 (R : V%) (l : Sl) (high : Bool) (H1 H2 : Heap) (I_ : Int → P%) (M_ : Int → M%) (i1 : Int) (H4 : Heap) : Prop :=
 iteB (decide (i1 ≥ (0 : Int))) (
 0 ≤ i1 ∧ i1 < (((l.n : Int).toNat : Nat) : Int) ∧ (s% x1 H4 ((&%H2).add (i1.toNat * 3)), s% x2 H4 (((&%H2).add (i1.toNat * 3)).add 1), s% x3 H4 (((&%H2).add (i1.toNat * 3)).add 2), (
 CallsH Tryz.prog n_resources_registers #[S%l, .bool high, I%i1] H4 (fun v1 H5 =>
 ∃ x4 : Sl, v1 = S%x4 ∧ (
 Keeps H4 H5 [(((&%H2).add (i1.toNat * 3)), 3)] ∧ (
 CallsH Tryz.prog n_resources_windows #[S%l, .bool high, I%i1, .agg #[S%x1, S%x2, S%x3]] H5 (fun v2 H6 =>
 ∃ x5 : Sl, v2 = S%x5 ∧ (
 runH Tryz.prog (Builtin.append_ #[t_sl_api_Need, t_sl_api_Need] t_sl_api_Need #[S%x4, S%x5]) H6 (fun v3 H7 =>
 ∃ x6 : Sl, v3 = S%x6 ∧ (
 0 ≤ i1 ∧ i1 < (((l.n : Int).toNat : Nat) : Int) ∧ (okRow H7 ((&%H1).add (i1.toNat * 1)) 1 ∧ (
 h% H8 (wrs H7 ((&%H1).add (i1.toNat * 1)) [S%x6]) (
 0 ≤ i1 ∧ i1 < (((l.n : Int).toNat : Nat) : Int) ∧ (s% x7 H8 ((&%H1).add (i1.toNat * 1)), (
 ∃ I_1 : Int → P%, ∃ M_1 : Int → M%, I_1 (0 : Int) H8 ∧ (∀ x8 : Int, ∀ H9 : Heap, I_1 x8 H9 → F_resources_Needs_r1 R l H2 I_ M_ i1 H4 x7 I_1 M_1 x8 H9)))))))))))))))) (
 ∃ I_2 : Sl → Int → P%, ∃ M_2 : Sl → Int → M%, I_2 (Sl.mk none 0 0) (0 : Int) H4 ∧ (∀ needs : Sl, ∀ x21 : Int, ∀ H16 : Heap, I_2 needs x21 H16 → F_resources_Needs_r2 R l H1 I_2 M_2 needs x21 H16))
def F_resources_Needs (R : V%) (l : Sl) (high : Bool) (H : Heap) : Prop :=
 CallsH Tryz.prog n_enumerate_Valid #[S%l] H (fun v H1 =>
 ∃ x : Bool, v = .bool x ∧ (
 iteB (!x) (
 R (.tuple #[N%, I%(1 : Int)]) H1) (
 0 ≤ (l.n : Int) ∧ (l.n : Int) ≤ (l.n : Int) ∧ (l.n : Int) * ((24 : Nat) : Int) ≤ 281474976710656 ∧ (
 h% H2 (H1.push (.cells (zeroRow (N%) (l.n : Int).toNat) t_sl_api_Need (0, 0))) (
 0 ≤ (l.n : Int) ∧ (l.n : Int) ≤ (l.n : Int) ∧ (l.n : Int) * ((72 : Nat) : Int) ≤ 281474976710656 ∧ (
 h% H3 (H2.push (.cells (zeroRow (.agg #[N%, N%, N%]) (l.n : Int).toNat) t_3_sl_int (0, 0))) (
 v% i (W% ((l.n : Int) - (1 : Int))) (
 ∃ I_ : Int → P%, ∃ M_ : Int → M%, I_ i H3 ∧ (∀ i1 : Int, ∀ H4 : Heap, I_ i1 H4 → F_resources_Needs_r3 R l high H1 H2 I_ M_ i1 H4)))))))))
theorem F_resources_Needs_ok {R : V%} (l : Sl) (high : Bool) {H : Heap} (h : F_resources_Needs R l high H) : CallsH Tryz.prog n_resources_Needs #[S%l, .bool high] H R := wpF_ok Tryz.func27 (show wpF Tryz.prog Tryz.f27 [(8, I%0), (12, N%), (52, I%0), (89, I%0)] [] [(6, [8], [0, 1, 6, 7]), (10, [52], [0, 1, 6, 7, 8, 50, 51]), (20, [12, 89], [87, 88])] [9] _ H R = F_resources_Needs R l high H by kernel_rfl) h
def F_hotplug_newExtension (R : V%) (l needs : Sl) (n : Int) (H : Heap) : Prop :=
 (
 0 ≤ (needs.n : Int) ∧ (needs.n : Int) ≤ (needs.n : Int) ∧ (needs.n : Int) * ((8 : Nat) : Int) ≤ 281474976710656 ∧ (
 h% H1 (H.push (.cells (zeroRow (U%(0 : Int)) (needs.n : Int).toNat) t_uint64 (0, 0))) (
 0 ≤ (needs.n : Int) ∧ (needs.n : Int) ≤ (needs.n : Int) ∧ (needs.n : Int) * ((1 : Nat) : Int) ≤ 281474976710656 ∧ (
 h% H2 (H1.push (.cells (zeroRow (.bool false) (needs.n : Int).toNat) t_bool (0, 0))) (
 h% H3 (H2.push (.cells #[S%l, I%n, S%needs, .slice (some &%H) ((needs.n : Int).toNat) ((needs.n : Int).toNat), .slice (some &%H1) ((needs.n : Int).toNat) ((needs.n : Int).toNat)] t_hotplug_extension (0, 0))) (
 R (.pointer (some &%H2)) H3)))))) ∧ (
 0 ≤ (needs.n : Int) ∧ (needs.n : Int) ≤ (needs.n : Int) ∧ (needs.n : Int) * ((1 : Nat) : Int) ≤ 281474976710656 ∧ (
 h% H4 (H.push (.cells (zeroRow (.bool false) (needs.n : Int).toNat) t_bool (0, 0))) (
 0 ≤ (needs.n : Int) ∧ (needs.n : Int) ≤ (needs.n : Int) ∧ (needs.n : Int) * ((8 : Nat) : Int) ≤ 281474976710656 ∧ (
 h% H5 (H4.push (.cells (zeroRow (U%(0 : Int)) (needs.n : Int).toNat) t_uint64 (0, 0))) (
 h% H6 (H5.push (.cells #[S%l, I%n, S%needs, .slice (some &%H4) ((needs.n : Int).toNat) ((needs.n : Int).toNat), .slice (some &%H) ((needs.n : Int).toNat) ((needs.n : Int).toNat)] t_hotplug_extension (0, 0))) (
 R (.pointer (some &%H5)) H6))))))
theorem F_hotplug_newExtension_ok {R : V%} (l needs : Sl) (n : Int) {H : Heap} (h : F_hotplug_newExtension R l needs n H) : CallsH Tryz.prog n_hotplug_newExtension #[S%l, S%needs, I%n] H R := wpF_ok Tryz.func28 (show wpF Tryz.prog Tryz.f28 [] [] [] [9] _ H R = F_hotplug_newExtension R l needs n H by kernel_rfl) h
def F_hotplug_extension_keep_r1 (R : V%) (x : Addr) (a : Sl) (I_ : Int → P%) (M_ : Int → M%) (x1 : Int) (H1 : Heap) : Prop :=
 iteB (decide (x1 < (a.n : Int))) (
 x% x1 a a1 ((
 a% x2 x3 x4 x5 x6 H1 (a1.add (x1.toNat * 5)), (
 h% H2 (H1.push (.cells #[Z%, Z%, Z%, Z%, U%(0 : Int)] t_api_Assignment (0, 0))) (
 okRow H2 &%H1 5 ∧ (
 h% H3 (wrs H2 &%H1 [I%x2, I%x3, I%x4, I%x5, U%x6]) (
 i% x7 H3 &%H1, (
 i% x8 H3 (+%H1 1), (
 CallsH Tryz.prog n_hotplug_extension_find #[.pointer (some x), I%x7, I%x8] H3 (fun v H4 =>
 ∃ i : Int, v = I%i ∧ (
 iteB (decide (i < (0 : Int))) (
 R (.bool false) H4) (
 s% x9 H4 (x.add 2), (
 x% i x9 a2 ((
 i% x10 H4 (a2.add (i.toNat * 4)), i% x11 H4 ((a2.add (i.toNat * 4)).add 1), i% x12 H4 ((a2.add (i.toNat * 4)).add 2), i% x13 H4 ((a2.add (i.toNat * 4)).add 3), (
 i% x14 H4 &%H1, i% x15 H4 (+%H1 1), i% x16 H4 (+%H1 2), i% x17 H4 (+%H1 3), (
 iteB (!((x10 == x14) && ((x11 == x15) && ((x12 == x16) && ((x13 == x17) && true))))) (
 R (.bool false) H4) (
 s% x18 H4 (x.add 3), (
 u% x19 H4 (+%H1 4), (
 x% i x18 a3 ((
 okRow H4 (a3.add (i.toNat * 1)) 1 ∧ (
 h% H5 (wrs H4 (a3.add (i.toNat * 1)) [U%x19]) (
 s% x20 H5 (x.add 4), (
 x% i x20 a4 ((
 okRow H5 (a4.add (i.toNat * 1)) 1 ∧ (
 h% H6 (wrs H5 (a4.add (i.toNat * 1)) [.bool true]) (
 I_ (W% (x1 + (1 : Int))) H6 ∧ M_ (W% (x1 + (1 : Int))) H6 < M_ x1 H1))))))))))))))))))))))))))))) (
 R (.bool true) H1)
def F_hotplug_extension_keep (R : V%) (x : Addr) (a : Sl) (H : Heap) : Prop :=
 ∃ I_ : Int → P%, ∃ M_ : Int → M%, I_ (0 : Int) H ∧ (∀ x1 : Int, ∀ H1 : Heap, I_ x1 H1 → F_hotplug_extension_keep_r1 R x a I_ M_ x1 H1)
theorem F_hotplug_extension_keep_ok {R : V%} (x : Addr) (a : Sl) {H : Heap} (h : F_hotplug_extension_keep R x a H) : CallsH Tryz.prog n_hotplug_extension_keep #[.pointer (some x), S%a] H R := wpF_ok Tryz.func29 (show wpF Tryz.prog Tryz.f29 [(10, I%0)] [] [(2, [10], [0, 8, 9])] [9] _ H R = F_hotplug_extension_keep R x a H by kernel_rfl) h
def F_hotplug_extension_fillPorts_r1 (R : V%) (x : Addr) (I_ : Int → P%) (M_ : Int → M%) (port : Int) (H1 : Heap) (I_1 : Int → P%) (M_1 : Int → M%) (classv : Int) (H3 : Heap) : Prop :=
 iteB (decide (classv < (3 : Int))) (
 CallsH Tryz.prog n_hotplug_extension_fill #[.pointer (some x), I%port, I%classv] H3 (fun v1 H4 =>
 ∃ x4 : Bool, v1 = .bool x4 ∧ (
 iteB (!x4) (
 R (.bool false) H4) (
 v% classv1 (W% (classv + (1 : Int))) (
 I_1 classv1 H4 ∧ M_1 classv1 H4 < M_1 classv H3))))) (
 v% port2 (W% (port + (1 : Int))) (
 I_ port2 H3 ∧ M_ port2 H3 < M_ port H1))
def F_hotplug_extension_fillPorts_r2 (R : V%) (x : Addr) (I_ : Int → P%) (M_ : Int → M%) (port : Int) (H1 : Heap) : Prop :=
 i% x1 H1 (x.add 1), (
 iteB (decide (port < x1)) (
 s% x2 H1 x, (
 CallsH Tryz.prog n_hotplug_isPort #[S%x2, I%port] H1 (fun v H2 =>
 ∃ x3 : Bool, v = .bool x3 ∧ (
 iteB (!x3) (
 v% port1 (W% (port + (1 : Int))) (
 I_ port1 H2 ∧ M_ port1 H2 < M_ port H1)) (
 ∃ I_1 : Int → P%, ∃ M_1 : Int → M%, I_1 (0 : Int) H2 ∧ (∀ classv : Int, ∀ H3 : Heap, I_1 classv H3 → F_hotplug_extension_fillPorts_r1 R x I_ M_ port H1 I_1 M_1 classv H3)))))) (
 R (.bool true) H1))
def F_hotplug_extension_fillPorts (R : V%) (x : Addr) (H : Heap) : Prop :=
 ∃ I_ : Int → P%, ∃ M_ : Int → M%, I_ (0 : Int) H ∧ (∀ port : Int, ∀ H1 : Heap, I_ port H1 → F_hotplug_extension_fillPorts_r2 R x I_ M_ port H1)
theorem F_hotplug_extension_fillPorts_ok {R : V%} (x : Addr) {H : Heap} (h : F_hotplug_extension_fillPorts R x H) : CallsH Tryz.prog n_hotplug_extension_fillPorts #[.pointer (some x)] H R := wpF_ok Tryz.func30 (show wpF Tryz.prog Tryz.f30 [(3, I%0), (4, I%0)] [] [(2, [3], [0]), (6, [4], [0, 3])] [9] _ H R = F_hotplug_extension_fillPorts R x H by kernel_rfl) h
def F_hotplug_extension_fillBridges_r1 (R : V%) (x : Addr) (I_ : Int → P%) (M_ : Int → M%) (bridge1 : Int) (H1 : Heap) (I_1 : Int → P%) (M_1 : Int → M%) (classv : Int) (H2 : Heap) : Prop :=
 iteB (decide (classv < (3 : Int))) (
 CallsH Tryz.prog n_hotplug_extension_fill #[.pointer (some x), I%bridge1, I%classv] H2 (fun v H3 =>
 ∃ x4 : Bool, v = .bool x4 ∧ (
 iteB (!x4) (
 R (.bool false) H3) (
 v% classv1 (W% (classv + (1 : Int))) (
 I_1 classv1 H3 ∧ M_1 classv1 H3 < M_1 classv H2))))) (
 v% bridge3 (W% (bridge1 + (1 : Int))) (
 I_ bridge3 H2 ∧ M_ bridge3 H2 < M_ bridge1 H1))
def F_hotplug_extension_fillBridges_r2 (R : V%) (x : Addr) (I_ : Int → P%) (M_ : Int → M%) (bridge1 : Int) (H1 : Heap) : Prop :=
 s% x1 H1 x, (
 iteB (decide (bridge1 < (x1.n : Int))) (
 s% x2 H1 x, (
 x% bridge1 x2 a ((
 b% x3 H1 ((a.add (bridge1.toNat * 11)).add 4), (
 iteB (!x3) (
 v% bridge2 (W% (bridge1 + (1 : Int))) (
 I_ bridge2 H1 ∧ M_ bridge2 H1 < M_ bridge1 H1)) (
 ∃ I_1 : Int → P%, ∃ M_1 : Int → M%, I_1 (0 : Int) H1 ∧ (∀ classv : Int, ∀ H2 : Heap, I_1 classv H2 → F_hotplug_extension_fillBridges_r1 R x I_ M_ bridge1 H1 I_1 M_1 classv H2))))))) (
 R (.bool true) H1))
def F_hotplug_extension_fillBridges (R : V%) (x : Addr) (H : Heap) : Prop :=
 i% bridge H (x.add 1), (
 ∃ I_ : Int → P%, ∃ M_ : Int → M%, I_ bridge H ∧ (∀ bridge1 : Int, ∀ H1 : Heap, I_ bridge1 H1 → F_hotplug_extension_fillBridges_r2 R x I_ M_ bridge1 H1))
theorem F_hotplug_extension_fillBridges_ok {R : V%} (x : Addr) {H : Heap} (h : F_hotplug_extension_fillBridges R x H) : CallsH Tryz.prog n_hotplug_extension_fillBridges #[.pointer (some x)] H R := wpF_ok Tryz.func31 (show wpF Tryz.prog Tryz.f31 [(3, I%0), (4, I%0)] [] [(2, [3], [0]), (6, [4], [0, 3])] [9] _ H R = F_hotplug_extension_fillBridges R x H by kernel_rfl) h
def F_hotplug_extension_assignments_r1 (R : V%) (H : Heap) (x : Addr) (x1 x2 : Sl) (I_ : Int → P%) (M_ : Int → M%) (x3 : Int) (H2 : Heap) : Prop :=
 iteB (decide (x3 < (x2.n : Int))) (
 x% x3 x2 a ((
 i% x4 H2 (a.add (x3.toNat * 4)), i% x5 H2 ((a.add (x3.toNat * 4)).add 1), i% x6 H2 ((a.add (x3.toNat * 4)).add 2), i% x7 H2 ((a.add (x3.toNat * 4)).add 3), (
 h% H3 (H2.push (.cells #[Z%, Z%, Z%, Z%] t_api_Need (0, 0))) (
 okRow H3 &%H2 4 ∧ (
 h% H4 (wrs H3 &%H2 [I%x4, I%x5, I%x6, I%x7]) (
 i% x8 H4 &%H2, i% x9 H4 (+%H2 1), i% x10 H4 (+%H2 2), i% x11 H4 (+%H2 3), (
 s% x12 H4 (x.add 3), (
 x% x3 x12 a1 ((
 u% x13 H4 (a1.add (x3.toNat * 1)), (
 0 ≤ x3 ∧ x3 < (((x1.n : Int).toNat : Nat) : Int) ∧ (okRow H4 ((&%H).add (x3.toNat * 5)) 5 ∧ (
 h% H5 (wrs H4 ((&%H).add (x3.toNat * 5)) [I%x8, I%x9, I%x10, I%x11, U%x13]) (
 I_ (W% (x3 + (1 : Int))) H5 ∧ M_ (W% (x3 + (1 : Int))) H5 < M_ x3 H2))))))))))))))) (
 R (.slice (some &%H) ((x1.n : Int).toNat) ((x1.n : Int).toNat)) H2)
def F_hotplug_extension_assignments (R : V%) (x : Addr) (H : Heap) : Prop :=
 s% x1 H (x.add 2), (
 0 ≤ (x1.n : Int) ∧ (x1.n : Int) ≤ (x1.n : Int) ∧ (x1.n : Int) * ((40 : Nat) : Int) ≤ 281474976710656 ∧ (
 h% H1 (H.push (.cells (zeroRow (.agg #[Z%, Z%, Z%, Z%, U%(0 : Int)]) (x1.n : Int).toNat) t_api_Assignment (0, 0))) (
 s% x2 H1 (x.add 2), (
 ∃ I_ : Int → P%, ∃ M_ : Int → M%, I_ (0 : Int) H1 ∧ (∀ x3 : Int, ∀ H2 : Heap, I_ x3 H2 → F_hotplug_extension_assignments_r1 R H x x1 x2 I_ M_ x3 H2)))))
theorem F_hotplug_extension_assignments_ok {R : V%} (x : Addr) {H : Heap} (h : F_hotplug_extension_assignments R x H) : CallsH Tryz.prog n_hotplug_extension_assignments #[.pointer (some x)] H R := wpF_ok Tryz.func32 (show wpF Tryz.prog Tryz.f32 [(17, I%0)] [] [(3, [17], [0, 3, 15, 16])] [9] _ H R = F_hotplug_extension_assignments R x H by kernel_rfl) h
def F_hotplug_extensionMoves_r1 (R : V%) (count : Int) (I_1 : Sl → Int → P%) (M_1 : Sl → Int → M%) (moves2 : Sl) (f : Int) (H7 : Heap) : Prop :=
 iteB (decide (f < count)) (
 h% H8 (H7.push (.cells #[I%(3 : Int), I%f, Z%, U%(0 : Int)] t_api_Move (0, 0))) (
 runH Tryz.prog (Builtin.append_ #[t_sl_api_Move, t_sl_api_Move] t_sl_api_Move #[S%moves2, .slice (some &%H7) 1 1]) H8 (fun v2 H9 =>
 ∃ moves3 : Sl, v2 = S%moves3 ∧ (
 v% f1 (W% (f + (1 : Int))) (
 I_1 moves3 f1 H9 ∧ M_1 moves3 f1 H9 < M_1 moves2 f H7))))) (
 R (S%moves2) H7)
def F_hotplug_extensionMoves_r2 (R : V%) (a : Sl) (count n : Int) (I_ : Sl → Int → P%) (M_ : Sl → Int → M%) (moves : Sl) (x : Int) (H1 : Heap) : Prop :=
 iteB (decide (x < (a.n : Int))) (
 x% x a a1 ((
 a% x1 x2 x3 x4 x5 H1 (a1.add (x.toNat * 5)), (
 h% H2 (H1.push (.cells #[Z%, Z%, Z%, Z%, U%(0 : Int)] t_api_Assignment (0, 0))) (
 okRow H2 &%H1 5 ∧ (
 h% H3 (wrs H2 &%H1 [I%x1, I%x2, I%x3, I%x4, U%x5]) (
 i% x6 H3 &%H1, (
 iteB (decide (x6 ≥ n)) (
 a% x7 x8 x9 x10 x11 H3 &%H1, (
 CallsH Tryz.prog n_hotplug_writeMove #[.agg #[I%x7, I%x8, I%x9, I%x10, U%x11]] H3 (fun v H4 =>
 ∃ x12 x13 : Int, ∃ x14 x15 : Int, v = .agg #[I%x12, I%x13, I%x14, U%x15] ∧ (
 h% H5 (H4.push (.cells #[I%x12, I%x13, I%x14, U%x15] t_api_Move (0, 0))) (
 runH Tryz.prog (Builtin.append_ #[t_sl_api_Move, t_sl_api_Move] t_sl_api_Move #[S%moves, .slice (some &%H4) 1 1]) H5 (fun v1 H6 =>
 ∃ moves1 : Sl, v1 = S%moves1 ∧ (
 I_ moves1 (W% (x + (1 : Int))) H6 ∧ M_ moves1 (W% (x + (1 : Int))) H6 < M_ moves x H1))))))) (
 I_ moves (W% (x + (1 : Int))) H3 ∧ M_ moves (W% (x + (1 : Int))) H3 < M_ moves x H1))))))))) (
 ∃ I_1 : Sl → Int → P%, ∃ M_1 : Sl → Int → M%, I_1 moves n H1 ∧ (∀ moves2 : Sl, ∀ f : Int, ∀ H7 : Heap, I_1 moves2 f H7 → F_hotplug_extensionMoves_r1 R count I_1 M_1 moves2 f H7))
def F_hotplug_extensionMoves (R : V%) (a : Sl) (count n : Int) (H : Heap) : Prop :=
 ∃ I_ : Sl → Int → P%, ∃ M_ : Sl → Int → M%, I_ (Sl.mk none 0 0) (0 : Int) H ∧ (∀ moves : Sl, ∀ x : Int, ∀ H1 : Heap, I_ moves x H1 → F_hotplug_extensionMoves_r2 R a count n I_ M_ moves x H1)
theorem F_hotplug_extensionMoves_ok {R : V%} (a : Sl) (count n : Int) {H : Heap} (h : F_hotplug_extensionMoves R a count n H) : CallsH Tryz.prog n_hotplug_extensionMoves #[S%a, I%count, I%n] H R := wpF_ok Tryz.func33 (show wpF Tryz.prog Tryz.f33 [(7, N%), (10, I%0), (13, I%0)] [] [(3, [7, 13], [1, 2, 11, 12]), (9, [7, 10], [1])] [9] _ H R = F_hotplug_extensionMoves R a count n H by kernel_rfl) h
def F_allocate_Assign_k1 (R : V%) (l : Sl) (H1 H7 : Heap) (x12 : Sl) (bridge : Int) (I_2 : Int → P%) (M_2 : Int → M%) (x24 : Int) (H16 : Heap) (free1 : Sl) (H20 : Heap) : Prop :=
 CallsH Tryz.prog n_allocate_placeBelow #[S%l, .slice (some &%H7) ((x12.n : Int).toNat) ((x12.n : Int).toNat), I%bridge, I%x24, S%free1] H20 (fun v5 H21 =>
 ∃ x36 x37 : Int, ∃ x38 x39 x40 : Int, v5 = .tuple #[.agg #[I%x36, I%x37, U%x38, U%x39], I%x40] ∧ (
 h% H22 (H21.push (.cells #[Z%, Z%, U%(0 : Int), U%(0 : Int)] t_api_Certificate (0, 0))) (
 okRow H22 &%H21 4 ∧ (
 h% H23 (wrs H22 &%H21 [I%x36, I%x37, U%x38, U%x39]) (
 iteB (x40 != (0 : Int)) (
 i% x41 H23 &%H21, i% x42 H23 (+%H21 1), u% x43 H23 (+%H21 2), u% x44 H23 (+%H21 3), (
 okRow H23 &%H1 4 ∧ (
 h% H24 (wrs H23 &%H1 [I%x41, I%x42, U%x43, U%x44]) (
 i% r8 H24 &%H1, i% r9 H24 (+%H1 1), u% r10 H24 (+%H1 2), u% r11 H24 (+%H1 3), (
 R (.tuple #[N%, .agg #[I%r8, I%r9, U%r10, U%r11], I%x40]) H24))))) (
 I_2 (W% (x24 + (1 : Int))) H23 ∧ M_2 (W% (x24 + (1 : Int))) H23 < M_2 x24 H16))))))
def F_allocate_Assign_r2 (R : V%) (H : Heap) (l : Sl) (H1 H7 : Heap) (x12 : Sl) (I_1 : Int → P%) (M_1 : Int → M%) (bridge : Int) (H14 : Heap) (I_2 : Int → P%) (M_2 : Int → M%) (x24 : Int) (H16 : Heap) : Prop :=
 iteB (decide (x24 < (3 : Int))) (
 ∃ J_2 : Sl → P%, (
 iteB (decide (bridge < (0 : Int))) (
 j% x25 x26 x27 x28 x29 x30 x31 x32 H16 &%H, (
 CallsH Tryz.prog n_allocate_hostFree #[(g% x25 x26 x27 x28 x29 x30 x31 x32), I%x24] H16 (fun v3 H17 =>
 ∃ free : Sl, v3 = S%free ∧ (
 J_2 free H17)))) (
 CallsH Tryz.prog n_allocate_window #[.slice (some &%H7) ((x12.n : Int).toNat) ((x12.n : Int).toNat), I%bridge, I%x24] H16 (fun v4 H18 =>
 ∃ x33 x34 : Int, ∃ x35 : Bool, v4 = .tuple #[U%x33, U%x34, .bool x35] ∧ (
 iteB x35 (
 h% H19 (H18.push (.cells #[U%x33, U%x34] t_api_Range (0, 0))) (
 J_2 (Sl.mk (some &%H18) 1 1) H19)) (
 J_2 (Sl.mk none 0 0) H18))))) ∧ (∀ free1 : Sl, ∀ H20 : Heap, J_2 free1 H20 → F_allocate_Assign_k1 R l H1 H7 x12 bridge I_2 M_2 x24 H16 free1 H20)) (
 v% bridge2 (W% (bridge + (1 : Int))) (
 I_1 bridge2 H16 ∧ M_1 bridge2 H16 < M_1 bridge H14))
def F_allocate_Assign_k3 (R : V%) (H : Heap) (l : Sl) (H1 H7 : Heap) (x12 : Sl) (I_1 : Int → P%) (M_1 : Int → M%) (bridge : Int) (H14 H15 : Heap) : Prop :=
 ∃ I_2 : Int → P%, ∃ M_2 : Int → M%, I_2 (0 : Int) H15 ∧ (∀ x24 : Int, ∀ H16 : Heap, I_2 x24 H16 → F_allocate_Assign_r2 R H l H1 H7 x12 I_1 M_1 bridge H14 I_2 M_2 x24 H16)
def F_allocate_Assign_r4 (R : V%) (H : Heap) (l : Sl) (H1 H7 : Heap) (x12 : Sl) (I_1 : Int → P%) (M_1 : Int → M%) (bridge : Int) (H14 : Heap) : Prop :=
 iteB (decide (bridge < (l.n : Int))) (
 ∃ J_1 : P%, (
 iteB (decide (bridge ≥ (0 : Int))) (
 x% bridge l a1 ((
 b% x23 H14 ((a1.add (bridge.toNat * 11)).add 4), (
 iteB (!x23) (
 v% bridge1 (W% (bridge + (1 : Int))) (
 I_1 bridge1 H14 ∧ M_1 bridge1 H14 < M_1 bridge H14)) (
 J_1 H14))))) (
 J_1 H14)) ∧ (∀ H15 : Heap, J_1 H15 → F_allocate_Assign_k3 R H l H1 H7 x12 I_1 M_1 bridge H14 H15)) (
 okRow H14 &%H1 4 ∧ (
 h% H25 (wrs H14 &%H1 [Z%, Z%, U%(0 : Int), U%(0 : Int)]) (
 i% r12 H25 &%H1, i% r13 H25 (+%H1 1), u% r14 H25 (+%H1 2), u% r15 H25 (+%H1 3), (
 R (.tuple #[.slice (some &%H7) ((x12.n : Int).toNat) ((x12.n : Int).toNat), .agg #[I%r12, I%r13, U%r14, U%r15], Z%]) H25))))
def F_allocate_Assign_r5 (R : V%) (H : Heap) (l : Sl) (H1 H7 : Heap) (x12 : Sl) (I_ : Int → P%) (M_ : Int → M%) (x14 : Int) (H10 : Heap) : Prop :=
 iteB (decide (x14 < (x12.n : Int))) (
 x% x14 x12 a ((
 i% x15 H10 (a.add (x14.toNat * 4)), i% x16 H10 ((a.add (x14.toNat * 4)).add 1), i% x17 H10 ((a.add (x14.toNat * 4)).add 2), i% x18 H10 ((a.add (x14.toNat * 4)).add 3), (
 h% H11 (H10.push (.cells #[Z%, Z%, Z%, Z%] t_api_Need (0, 0))) (
 okRow H11 &%H10 4 ∧ (
 h% H12 (wrs H11 &%H10 [I%x15, I%x16, I%x17, I%x18]) (
 i% x19 H12 &%H10, i% x20 H12 (+%H10 1), i% x21 H12 (+%H10 2), i% x22 H12 (+%H10 3), (
 0 ≤ x14 ∧ x14 < (((x12.n : Int).toNat : Nat) : Int) ∧ (okRow H12 ((&%H7).add (x14.toNat * 5)) 4 ∧ (
 h% H13 (wrs H12 ((&%H7).add (x14.toNat * 5)) [I%x19, I%x20, I%x21, I%x22]) (
 I_ (W% (x14 + (1 : Int))) H13 ∧ M_ (W% (x14 + (1 : Int))) H13 < M_ x14 H10))))))))))) (
 ∃ I_1 : Int → P%, ∃ M_1 : Int → M%, I_1 (-1 : Int) H10 ∧ (∀ bridge : Int, ∀ H14 : Heap, I_1 bridge H14 → F_allocate_Assign_r4 R H l H1 H7 x12 I_1 M_1 bridge H14))
def F_allocate_Assign_k6 (R : V%) (H : Heap) (l : Sl) (H1 : Heap) (x10 : Bool) (H5 : Heap) : Prop :=
 iteB x10 (
 okRow H5 &%H1 4 ∧ (
 h% H6 (wrs H5 &%H1 [Z%, Z%, U%(0 : Int), U%(0 : Int)]) (
 i% r H6 &%H1, i% r1 H6 (+%H1 1), u% r2 H6 (+%H1 2), u% r3 H6 (+%H1 3), (
 R (.tuple #[N%, .agg #[I%r, I%r1, U%r2, U%r3], I%(1 : Int)]) H6)))) (
 s% x11 H5 (+%H 3), (
 CallsH Tryz.prog n_resources_Needs #[S%l, .bool (decide ((x11.n : Int) > (0 : Int)))] H5 (fun v2 H7 =>
 ∃ x12 : Sl, ∃ x13 : Int, v2 = .tuple #[S%x12, I%x13] ∧ (
 iteB (x13 != (0 : Int)) (
 okRow H7 &%H1 4 ∧ (
 h% H8 (wrs H7 &%H1 [Z%, Z%, U%(0 : Int), U%(0 : Int)]) (
 i% r4 H8 &%H1, i% r5 H8 (+%H1 1), u% r6 H8 (+%H1 2), u% r7 H8 (+%H1 3), (
 R (.tuple #[N%, .agg #[I%r4, I%r5, U%r6, U%r7], I%x13]) H8)))) (
 0 ≤ (x12.n : Int) ∧ (x12.n : Int) ≤ (x12.n : Int) ∧ (x12.n : Int) * ((40 : Nat) : Int) ≤ 281474976710656 ∧ (
 h% H9 (H7.push (.cells (zeroRow (.agg #[Z%, Z%, Z%, Z%, U%(0 : Int)]) (x12.n : Int).toNat) t_api_Assignment (0, 0))) (
 ∃ I_ : Int → P%, ∃ M_ : Int → M%, I_ (0 : Int) H9 ∧ (∀ x14 : Int, ∀ H10 : Heap, I_ x14 H10 → F_allocate_Assign_r5 R H l H1 H7 x12 I_ M_ x14 H10))))))))
def F_allocate_Assign (R : V%) (l : Sl) (h_0 : Int) (h_1 h_2 h_3 h_4 h_5 h_6 h_7 : Sl) (H : Heap) : Prop :=
 h% H1 (H.push (.cells #[I%h_0, S%h_1, S%h_2, S%h_3, S%h_4, S%h_5, S%h_6, S%h_7] t_api_Host (0, 0))) (
 h% H2 (H1.push (.cells #[Z%, Z%, U%(0 : Int), U%(0 : Int)] t_api_Certificate (0, 0))) (
 ∃ J_ : Bool → P%, (
 CallsH Tryz.prog n_enumerate_Valid #[S%l] H2 (fun v H3 =>
 ∃ x : Bool, v = .bool x ∧ (
 iteB (!x) (
 J_ true H3) (
 j% x1 x2 x3 x4 x5 x6 x7 x8 H3 &%H, (
 CallsH Tryz.prog n_allocate_ValidHost #[(g% x1 x2 x3 x4 x5 x6 x7 x8)] H3 (fun v1 H4 =>
 ∃ x9 : Bool, v1 = .bool x9 ∧ (
 J_ (!x9) H4))))))) ∧ (∀ x10 : Bool, ∀ H5 : Heap, J_ x10 H5 → F_allocate_Assign_k6 R H l H1 x10 H5)))
theorem F_allocate_Assign_ok {R : V%} (l : Sl) (h_0 : Int) (h_1 h_2 h_3 h_4 h_5 h_6 h_7 : Sl) {H : Heap} (h : F_allocate_Assign R l h_0 h_1 h_2 h_3 h_4 h_5 h_6 h_7 H) : CallsH Tryz.prog n_allocate_Assign #[S%l, (g% h_0 h_1 h_2 h_3 h_4 h_5 h_6 h_7)] H R := wpF_ok Tryz.func34 (show wpF Tryz.prog Tryz.f34 [(12, I%0), (14, N%), (27, .bool false), (47, I%0), (74, I%0)] [(2, [27], [0, 3, 5]), (16, [], [0, 3, 5, 9, 12]), (25, [14], [0, 3, 5, 9, 12, 13, 74])] [(8, [47], [0, 3, 5, 9, 45, 46]), (13, [12], [0, 3, 5, 9]), (17, [74], [0, 3, 5, 9, 12])] [9] _ H R = F_allocate_Assign R l h_0 h_1 h_2 h_3 h_4 h_5 h_6 h_7 H by kernel_rfl) h

end Go.Proofs.YtnhhncjflnlfaaaGreat
