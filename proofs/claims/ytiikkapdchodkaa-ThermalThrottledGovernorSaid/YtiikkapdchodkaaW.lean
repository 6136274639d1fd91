/-
  The shallow readings of this seat's functions, written by a program (gen.py); the kernel holds each against the loaded program.
-/
import Derived.Test.YtiikkapdchodkaaProg
import Derived.Test.YtiikkapdchodkaaEngS
namespace Go.Proofs.Ytiikkapdchodkaa
open Go.Eng
abbrev n_law39_ThermalTripsAgree : FuncId := 3
abbrev n_law39_ThermalAllocateAgrees : FuncId := 4
abbrev n_law39_ThermalMoreBudgetHelps : FuncId := 5
abbrev n_law39_ThermalZoneAgrees : FuncId := 6
abbrev n_law39_ThermalHysteresis : FuncId := 7
abbrev n_law39_ThermalAllocateIsFair : FuncId := 8
abbrev n_law39_ThermalFairAgrees : FuncId := 9
abbrev n_law39_ThermalThrottle : FuncId := 10
abbrev n_law39_ThermalKeepsLimit : FuncId := 11
abbrev n_law39_ThermalOvershootIsBounded : FuncId := 12
abbrev n_law39_ThermalBudgetKeepsLimit : FuncId := 13
abbrev n_law39_ThermalDomainsKeepLimit : FuncId := 14
abbrev n_law39_ThermalThrottledGovernor : FuncId := 15
abbrev n_law39_awake : FuncId := 16
abbrev n_law39_Trips : FuncId := 17
abbrev n_help_Mod : FuncId := 18
abbrev n_thermal_NewZone : FuncId := 19
abbrev n_ref39_NewZone : FuncId := 20
abbrev n_thermal_CheckTrips : FuncId := 21
abbrev n_ref39_CheckTrips : FuncId := 22
abbrev n_law39_Actors : FuncId := 23
abbrev n_thermal_Allocate : FuncId := 24
abbrev n_ref39_Allocate : FuncId := 25
abbrev n_help_Equal_uint64 : FuncId := 26
abbrev n_law39_degree : FuncId := 27
abbrev n_thermal_Zone_Update : FuncId := 28
abbrev n_ref39_Zone_Update : FuncId := 29
abbrev n_thermal_Zone_Level : FuncId := 30
abbrev n_ref39_Zone_Level : FuncId := 31
abbrev n_help_Equal_bool : FuncId := 32
abbrev n_thermal_Zone_Active : FuncId := 33
abbrev n_ref39_Zone_Active : FuncId := 34
abbrev n_law39_want : FuncId := 35
abbrev n_thermal_Fair : FuncId := 36
abbrev n_ref39_Fair : FuncId := 37
abbrev n_law36_Table : FuncId := 38
abbrev n_thermal_Throttle : FuncId := 39
abbrev n_ref39_Throttle : FuncId := 40
abbrev n_law38_Some : FuncId := 41
abbrev n_thermal_Sustainable : FuncId := 42
abbrev n_heat_New : FuncId := 43
abbrev n_law38_Powers : FuncId := 44
abbrev n_heat_Model_Step : FuncId := 45
abbrev n_perf_New : FuncId := 46
abbrev n_perf_Governor_Limit : FuncId := 47
abbrev n_perf_Governor_Sample : FuncId := 48
abbrev n_slices_Clone_sl_api_Trip_api_Trip : FuncId := 49
abbrev n_thermal_validActors : FuncId := 50
abbrev n_thermal_total : FuncId := 51
abbrev n_thermal_at : FuncId := 52
abbrev n_thermal_want : FuncId := 53
abbrev n_ref39_valid : FuncId := 54
abbrev n_ref39_at : FuncId := 55
abbrev n_ref39_want : FuncId := 56
abbrev n_slices_Clone_sl_bool_bool : FuncId := 57
abbrev n_perf_Check : FuncId := 58
abbrev n_ref36_Check : FuncId := 59
abbrev n_heat_valid : FuncId := 60
abbrev n_slices_Clone_sl_api_HeatDomain_api_HeatDomain : FuncId := 61
abbrev n_slices_Clone_sl_api_HeatLink_api_HeatLink : FuncId := 62
abbrev n_heat_validPower : FuncId := 63
abbrev n_heat_Model_temperatures : FuncId := 64
abbrev n_slices_Clone_sl_api_OperatingPoint_api_OperatingPoint : FuncId := 65
abbrev n_perf_Governor_sufficient : FuncId := 66
abbrev n_heat_Model_Temperature : FuncId := 67
abbrev t_int64 : TypeId := 2
abbrev t_int : TypeId := 3
abbrev t_bool : TypeId := 4
abbrev t_uint8 : TypeId := 5
abbrev t_abi_BoundsErrorCode : TypeId := 6
abbrev t_runtime_boundsError : TypeId := 8
abbrev t_string : TypeId := 9
abbrev t_runtime_errorString : TypeId := 10
abbrev t_runtime_plainError : TypeId := 11
abbrev t_uintptr : TypeId := 12
abbrev t_runtime_errorAddressString : TypeId := 14
abbrev t_p_runtime_TypeAssertionError : TypeId := 15
abbrev t_p_runtime_PanicNilError : TypeId := 16
abbrev t_p_abi_Type : TypeId := 17
abbrev t_maps_unhashableTypeError : TypeId := 19
abbrev t_int32 : TypeId := 21
abbrev t_sl_api_Trip : TypeId := 22
abbrev t_api_Trip : TypeId := 24
abbrev t_p_thermal_Zone : TypeId := 28
abbrev t_api_Errno : TypeId := 29
abbrev t_p_ref39_Zone : TypeId := 32
abbrev t_uint64 : TypeId := 37
abbrev t_sl_api_Actor : TypeId := 38
abbrev t_sl_uint64 : TypeId := 40
abbrev t_sl_int64 : TypeId := 46
abbrev t_sl_bool : TypeId := 52
abbrev t_api_Actor : TypeId := 56
abbrev t_sl_api_OperatingPoint : TypeId := 60
abbrev t_api_OperatingPoint : TypeId := 65
abbrev t_api_HeatDomain : TypeId := 68
abbrev t_sl_api_HeatDomain : TypeId := 69
abbrev t_sl_api_HeatLink : TypeId := 70
abbrev t_law38_System : TypeId := 72
abbrev t_p_heat_Model : TypeId := 76
abbrev t_uint16 : TypeId := 83
abbrev t_uint : TypeId := 85
abbrev t_sl_sl_uint64 : TypeId := 87
abbrev t_sl_int : TypeId := 89
abbrev t_p_perf_Governor : TypeId := 90
abbrev t_api_GovernorParams : TypeId := 94
abbrev t_thermal_Zone : TypeId := 99
abbrev t_ref39_Zone : TypeId := 101
abbrev t_api_HeatLink : TypeId := 110
abbrev t_heat_Model : TypeId := 115
abbrev t_perf_Governor : TypeId := 119
abbrev t_16_bool : TypeId := 121
abbrev t_16_16_bool : TypeId := 122
abbrev t_runtime_TypeAssertionError : TypeId := 126
abbrev t_0_p_runtime_PanicNilError : TypeId := 127
abbrev t_runtime_PanicNilError : TypeId := 129
abbrev t_uint32 : TypeId := 130
abbrev t_abi_TFlag : TypeId := 131
abbrev t_abi_Kind : TypeId := 132
abbrev t_p_uint8 : TypeId := 134
abbrev t_abi_NameOff : TypeId := 135
abbrev t_abi_TypeOff : TypeId := 136
abbrev t_abi_Type : TypeId := 138
abbrev t_unsafe_Pointer : TypeId := 140

/-! ### 3: platformfw/platformfwlaw39.ThermalTripsAgree -/

def F_law39_ThermalTripsAgree_k1 (R : Value → Heap → Prop) (raw : Sl) (levels : Int) (l : Sl) (H7 : Heap) : Prop :=
  CallsH Try.prog n_thermal_NewZone #[.slice raw.p raw.n raw.c, .int .i64 levels] H7 (fun v4 H8 =>
  ∃ x7 : Option Addr, ∃ x8 : Int, v4 = .tuple #[.pointer x7, .int .i64 x8] ∧ (
  CallsH Try.prog n_ref39_NewZone #[.slice raw.p raw.n raw.c, .int .i64 levels] H8 (fun v5 H9 =>
  ∃ x9 : Option Addr, ∃ x10 : Int, v5 = .tuple #[.pointer x9, .int .i64 x10] ∧ (
  CallsH Try.prog n_help_Mod #[.int .i64 levels, .int .i64 (70 : Int)] H9 (fun v6 H10 =>
  ∃ x11 : Int, v6 = .int .i64 x11 ∧ (
  CallsH Try.prog n_thermal_NewZone #[.slice l.p l.n l.c, .int .i64 (IntKind.i64.wrap (x11 - (2 : Int)))] H10 (fun v7 H11 =>
  ∃ x12 : Option Addr, ∃ x13 : Int, v7 = .tuple #[.pointer x12, .int .i64 x13] ∧ (
  CallsH Try.prog n_help_Mod #[.int .i64 levels, .int .i64 (70 : Int)] H11 (fun v8 H12 =>
  ∃ x14 : Int, v8 = .int .i64 x14 ∧ (
  CallsH Try.prog n_ref39_NewZone #[.slice l.p l.n l.c, .int .i64 (IntKind.i64.wrap (x14 - (2 : Int)))] H12 (fun v9 H13 =>
  ∃ x15 : Option Addr, ∃ x16 : Int, v9 = .tuple #[.pointer x15, .int .i64 x16] ∧ (
  CallsH Try.prog n_thermal_CheckTrips #[.slice raw.p raw.n raw.c] H13 (fun v10 H14 =>
  ∃ x17 : Int, v10 = .int .i64 x17 ∧ (
  CallsH Try.prog n_ref39_CheckTrips #[.slice raw.p raw.n raw.c] H14 (fun v11 H15 =>
  ∃ x18 : Int, v11 = .int .i64 x18 ∧ (
  iteB (x17 == x18) (
  CallsH Try.prog n_thermal_CheckTrips #[.slice l.p l.n l.c] H15 (fun v12 H16 =>
  ∃ x19 : Int, v12 = .int .i64 x19 ∧ (
  CallsH Try.prog n_ref39_CheckTrips #[.slice l.p l.n l.c] H16 (fun v13 H17 =>
  ∃ x20 : Int, v13 = .int .i64 x20 ∧ (
  iteB (x19 == x20) (
  iteB (x8 == x10) (
  iteB (x13 == x16) (
  iteB (x7.isNone == (x8 != (0 : Int))) (
  iteB (x12.isNone == (x13 != (0 : Int))) (
  CallsH Try.prog n_law39_awake #[] H17 (fun v14 H18 =>
  ∃ x21 : Bool, v14 = .bool x21 ∧ (
  R (.bool x21) H18))) (
  R (.bool false) H17)) (
  R (.bool false) H17)) (
  R (.bool false) H17)) (
  R (.bool false) H17)) (
  R (.bool false) H17)))))) (
  R (.bool false) H15)))))))))))))))))

def F_law39_ThermalTripsAgree (R : Value → Heap → Prop) (raw : Sl) (levels : Int) (k : Int) (x_0 : Int) (x_1 : Int) (x_2 : Int) (H : Heap) : Prop :=
  letH (H.push (.cells #[.int .i64 x_0, .int .i64 x_1, .int .i64 x_2] t_api_Trip (0, 0))) (fun H1 : Heap =>
  iteB (decide ((raw.n : Int) > (20 : Int))) (
  CallsH Try.prog n_law39_awake #[] H1 (fun v H2 =>
  ∃ x : Bool, v = .bool x ∧ (
  R (.bool x) H2))) (
  CallsH Try.prog n_law39_Trips #[.slice raw.p raw.n raw.c] H1 (fun v1 H3 =>
  ∃ l : Sl, v1 = .slice l.p l.n l.c ∧ (
  ∃ J_ : Heap → Prop, (
  iteB (decide ((l.n : Int) > (0 : Int))) (
  ∃ x1 : Int, rd H3 (⟨H.size, 0, none⟩ : Addr) = some (.int .i64 x1) ∧ (
  CallsH Try.prog n_help_Mod #[.int .i64 x1, .int .i64 (5 : Int)] H3 (fun v2 H4 =>
  ∃ x2 : Int, v2 = .int .i64 x2 ∧ (
  okRow H4 (⟨H.size, 0, none⟩ : Addr) 1 ∧ (
  letH (wrs H4 (⟨H.size, 0, none⟩ : Addr) [.int .i64 x2]) (fun H5 : Heap =>
  CallsP Try.prog n_help_Mod #[.int .i64 k, .int .i64 (l.n : Int)] (fun v3 =>
  ∃ x3 : Int, v3 = .int .i64 x3 ∧ (
  ∃ x4 : Int, rd H5 (⟨H.size, 0, none⟩ : Addr) = some (.int .i64 x4) ∧ ∃ x5 : Int, rd H5 ((⟨H.size, 0, none⟩ : Addr).add 1) = some (.int .i64 x5) ∧ ∃ x6 : Int, rd H5 ((⟨H.size, 0, none⟩ : Addr).add 2) = some (.int .i64 x6) ∧ (
  0 ≤ x3 ∧ x3 < (l.n : Int) ∧ (unSome l.p (fun a =>
  okRow H5 (a.add (x3.toNat * 3)) 3 ∧ (
  letH (wrs H5 (a.add (x3.toNat * 3)) [.int .i64 x4, .int .i64 x5, .int .i64 x6]) (fun H6 : Heap =>
  J_ H6))))))))))))) (
  J_ H3)) ∧ (∀ H7 : Heap, J_ H7 → F_law39_ThermalTripsAgree_k1 R raw levels l H7)))))

theorem F_law39_ThermalTripsAgree_eq (R : Value → Heap → Prop) (raw : Sl) (levels : Int) (k : Int) (x_0 : Int) (x_1 : Int) (x_2 : Int) (H : Heap) : wpF Try.prog Try.f3 [] [(7, [], [0, 1, 9])] [] [18] [.slice raw.p raw.n raw.c, .int .i64 levels, .int .i64 k, .agg #[.int .i64 x_0, .int .i64 x_1, .int .i64 x_2]] H R = F_law39_ThermalTripsAgree R raw levels k x_0 x_1 x_2 H := by kernel_rfl

theorem F_law39_ThermalTripsAgree_ok {R : Value → Heap → Prop} (raw : Sl) (levels : Int) (k : Int) (x_0 : Int) (x_1 : Int) (x_2 : Int) {H : Heap} (h : F_law39_ThermalTripsAgree R raw levels k x_0 x_1 x_2 H) : CallsH Try.prog n_law39_ThermalTripsAgree #[.slice raw.p raw.n raw.c, .int .i64 levels, .int .i64 k, .agg #[.int .i64 x_0, .int .i64 x_1, .int .i64 x_2]] H R :=
  wpF_ok Try.func3 (F_law39_ThermalTripsAgree_eq R raw levels k x_0 x_1 x_2 H) h

/-! ### 4: platformfw/platformfwlaw39.ThermalAllocateAgrees -/

def F_law39_ThermalAllocateAgrees (R : Value → Heap → Prop) (budget : Int) (raw : Sl) (H : Heap) : Prop :=
  iteB (decide ((raw.n : Int) > (40 : Int))) (
  CallsH Try.prog n_law39_awake #[] H (fun v H1 =>
  ∃ x : Bool, v = .bool x ∧ (
  R (.bool x) H1))) (
  CallsH Try.prog n_law39_Actors #[.slice raw.p raw.n raw.c] H (fun v1 H2 =>
  ∃ l : Sl, v1 = .slice l.p l.n l.c ∧ (
  CallsH Try.prog n_thermal_Allocate #[.int .u64 budget, .slice raw.p raw.n raw.c] H2 (fun v2 H3 =>
  ∃ x1 : Sl, ∃ x2 : Int, v2 = .tuple #[.slice x1.p x1.n x1.c, .int .i64 x2] ∧ (
  CallsH Try.prog n_ref39_Allocate #[.int .u64 budget, .slice raw.p raw.n raw.c] H3 (fun v3 H4 =>
  ∃ x3 : Sl, ∃ x4 : Int, v3 = .tuple #[.slice x3.p x3.n x3.c, .int .i64 x4] ∧ (
  CallsH Try.prog n_thermal_Allocate #[.int .u64 (budget.tmod (200 : Int)), .slice l.p l.n l.c] H4 (fun v4 H5 =>
  ∃ x5 : Sl, ∃ x6 : Int, v4 = .tuple #[.slice x5.p x5.n x5.c, .int .i64 x6] ∧ (
  CallsH Try.prog n_ref39_Allocate #[.int .u64 (budget.tmod (200 : Int)), .slice l.p l.n l.c] H5 (fun v5 H6 =>
  ∃ x7 : Sl, ∃ x8 : Int, v5 = .tuple #[.slice x7.p x7.n x7.c, .int .i64 x8] ∧ (
  CallsH Try.prog n_thermal_Allocate #[.int .u64 budget, .slice l.p l.n l.c] H6 (fun v6 H7 =>
  ∃ x9 : Sl, ∃ x10 : Int, v6 = .tuple #[.slice x9.p x9.n x9.c, .int .i64 x10] ∧ (
  CallsH Try.prog n_ref39_Allocate #[.int .u64 budget, .slice l.p l.n l.c] H7 (fun v7 H8 =>
  ∃ x11 : Sl, ∃ x12 : Int, v7 = .tuple #[.slice x11.p x11.n x11.c, .int .i64 x12] ∧ (
  iteB (x2 == x4) (
  iteB (x6 == x8) (
  iteB (x10 == x12) (
  CallsH Try.prog n_help_Equal_uint64 #[.slice x1.p x1.n x1.c, .slice x3.p x3.n x3.c] H8 (fun v8 H9 =>
  ∃ x13 : Bool, v8 = .bool x13 ∧ (
  iteB x13 (
  CallsH Try.prog n_help_Equal_uint64 #[.slice x5.p x5.n x5.c, .slice x7.p x7.n x7.c] H9 (fun v9 H10 =>
  ∃ x14 : Bool, v9 = .bool x14 ∧ (
  iteB x14 (
  CallsH Try.prog n_help_Equal_uint64 #[.slice x9.p x9.n x9.c, .slice x11.p x11.n x11.c] H10 (fun v10 H11 =>
  ∃ x15 : Bool, v10 = .bool x15 ∧ (
  iteB x15 (
  CallsH Try.prog n_law39_awake #[] H11 (fun v11 H12 =>
  ∃ x16 : Bool, v11 = .bool x16 ∧ (
  R (.bool x16) H12))) (
  R (.bool false) H11)))) (
  R (.bool false) H10)))) (
  R (.bool false) H9)))) (
  R (.bool false) H8)) (
  R (.bool false) H8)) (
  R (.bool false) H8))))))))))))))))

theorem F_law39_ThermalAllocateAgrees_eq (R : Value → Heap → Prop) (budget : Int) (raw : Sl) (H : Heap) : wpF Try.prog Try.f4 [] [] [] [18] [.int .u64 budget, .slice raw.p raw.n raw.c] H R = F_law39_ThermalAllocateAgrees R budget raw H := by kernel_rfl

theorem F_law39_ThermalAllocateAgrees_ok {R : Value → Heap → Prop} (budget : Int) (raw : Sl) {H : Heap} (h : F_law39_ThermalAllocateAgrees R budget raw H) : CallsH Try.prog n_law39_ThermalAllocateAgrees #[.int .u64 budget, .slice raw.p raw.n raw.c] H R :=
  wpF_ok Try.func4 (F_law39_ThermalAllocateAgrees_eq R budget raw H) h

/-! ### 5: platformfw/platformfwlaw39.ThermalMoreBudgetHelps -/

def F_law39_ThermalMoreBudgetHelps_r1 (R : Value → Heap → Prop) (l : Sl) (x1 : Sl) (x3 : Sl) (I_ : Int → Heap → Prop) (M_ : Int → Heap → Nat) (i : Int) (H6 : Heap) : Prop :=
  iteB (decide (i < (l.n : Int))) (
  0 ≤ i ∧ i < (x3.n : Int) ∧ (unSome x3.p (fun a =>
  ∃ x6 : Int, rd H6 (a.add (i.toNat * 1)) = some (.int .u64 x6) ∧ (
  0 ≤ i ∧ i < (x1.n : Int) ∧ (unSome x1.p (fun a1 =>
  ∃ x7 : Int, rd H6 (a1.add (i.toNat * 1)) = some (.int .u64 x7) ∧ (
  iteB (decide (x6 < x7)) (
  R (.bool false) H6) (
  letV (IntKind.i64.wrap (i + (1 : Int))) (fun i1 : Int =>
  I_ i1 H6 ∧ M_ i1 H6 < M_ i H6))))))))) (
  CallsH Try.prog n_law39_awake #[] H6 (fun v5 H7 =>
  ∃ x8 : Bool, v5 = .bool x8 ∧ (
  R (.bool x8) H7)))

def F_law39_ThermalMoreBudgetHelps (R : Value → Heap → Prop) (budget : Int) (more : Int) (raw : Sl) (H : Heap) : Prop :=
  iteB (decide ((raw.n : Int) > (40 : Int))) (
  CallsH Try.prog n_law39_awake #[] H (fun v H1 =>
  ∃ x : Bool, v = .bool x ∧ (
  R (.bool x) H1))) (
  CallsH Try.prog n_law39_Actors #[.slice raw.p raw.n raw.c] H (fun v1 H2 =>
  ∃ l : Sl, v1 = .slice l.p l.n l.c ∧ (
  letV (budget.tmod (200 : Int)) (fun b : Int =>
  CallsH Try.prog n_thermal_Allocate #[.int .u64 b, .slice l.p l.n l.c] H2 (fun v2 H3 =>
  ∃ x1 : Sl, ∃ x2 : Int, v2 = .tuple #[.slice x1.p x1.n x1.c, .int .i64 x2] ∧ (
  CallsH Try.prog n_thermal_Allocate #[.int .u64 (IntKind.u64.wrap (b + (more.tmod (20 : Int)))), .slice l.p l.n l.c] H3 (fun v3 H4 =>
  ∃ x3 : Sl, ∃ x4 : Int, v3 = .tuple #[.slice x3.p x3.n x3.c, .int .i64 x4] ∧ (
  iteB (x2 != (0 : Int)) (
  iteB (x2 == (19 : Int)) (
  CallsH Try.prog n_law39_awake #[] H4 (fun v4 H5 =>
  ∃ x5 : Bool, v4 = .bool x5 ∧ (
  R (.bool x5) H5))) (
  R (.bool false) H4)) (
  iteB (x4 != (0 : Int)) (
  R (.bool false) H4) (
  iteB ((x1.n : Int) != (l.n : Int)) (
  R (.bool false) H4) (
  iteB ((x3.n : Int) != (l.n : Int)) (
  R (.bool false) H4) (
  ∃ I_ : Int → Heap → Prop, ∃ M_ : Int → Heap → Nat, I_ (0 : Int) H4 ∧ (∀ i : Int, ∀ H6 : Heap, I_ i H6 → F_law39_ThermalMoreBudgetHelps_r1 R l x1 x3 I_ M_ i H6)))))))))))))

theorem F_law39_ThermalMoreBudgetHelps_eq (R : Value → Heap → Prop) (budget : Int) (more : Int) (raw : Sl) (H : Heap) : wpF Try.prog Try.f5 [(13, .int .i64 0)] [] [(12, [13], [7, 9, 11])] [18] [.int .u64 budget, .int .u64 more, .slice raw.p raw.n raw.c] H R = F_law39_ThermalMoreBudgetHelps R budget more raw H := by kernel_rfl

theorem F_law39_ThermalMoreBudgetHelps_ok {R : Value → Heap → Prop} (budget : Int) (more : Int) (raw : Sl) {H : Heap} (h : F_law39_ThermalMoreBudgetHelps R budget more raw H) : CallsH Try.prog n_law39_ThermalMoreBudgetHelps #[.int .u64 budget, .int .u64 more, .slice raw.p raw.n raw.c] H R :=
  wpF_ok Try.func5 (F_law39_ThermalMoreBudgetHelps_eq R budget more raw H) h

/-! ### 6: platformfw/platformfwlaw39.ThermalZoneAgrees -/

def F_law39_ThermalZoneAgrees_r1 (R : Value → Heap → Prop) (temperatures : Sl) (x2 : Option Addr) (x4 : Option Addr) (I_ : Int → Heap → Prop) (M_ : Int → Heap → Nat) (i : Int) (H7 : Heap) : Prop :=
  iteB (decide (i < (temperatures.n : Int))) (
  0 ≤ i ∧ i < (temperatures.n : Int) ∧ (unSome temperatures.p (fun a =>
  ∃ x6 : Int, rd H7 (a.add (i.toNat * 1)) = some (.int .i64 x6) ∧ (
  CallsH Try.prog n_law39_degree #[.int .i64 x6, .int .i64 i] H7 (fun v5 H8 =>
  ∃ t : Int, v5 = .int .i64 t ∧ (
  CallsH Try.prog n_thermal_Zone_Update #[.pointer x2, .int .i64 t] H8 (fun v6 H9 =>
  ∃ x7 : Int, ∃ x8 : Bool, ∃ x9 : Int, v6 = .tuple #[.int .i64 x7, .bool x8, .int .i64 x9] ∧ (
  CallsH Try.prog n_ref39_Zone_Update #[.pointer x4, .int .i64 t] H9 (fun v7 H10 =>
  ∃ x10 : Int, ∃ x11 : Bool, ∃ x12 : Int, v7 = .tuple #[.int .i64 x10, .bool x11, .int .i64 x12] ∧ (
  iteB (x7 != x10) (
  R (.bool false) H10) (
  iteB (!(x8 == x11)) (
  R (.bool false) H10) (
  iteB (x9 != x12) (
  R (.bool false) H10) (
  CallsH Try.prog n_thermal_Zone_Level #[.pointer x2] H10 (fun v8 H11 =>
  ∃ x13 : Int, v8 = .int .i64 x13 ∧ (
  CallsH Try.prog n_ref39_Zone_Level #[.pointer x4] H11 (fun v9 H12 =>
  ∃ x14 : Int, v9 = .int .i64 x14 ∧ (
  iteB (x13 != x14) (
  R (.bool false) H12) (
  CallsH Try.prog n_thermal_Zone_Active #[.pointer x2] H12 (fun v10 H13 =>
  ∃ x15 : Sl, v10 = .slice x15.p x15.n x15.c ∧ (
  CallsH Try.prog n_ref39_Zone_Active #[.pointer x4] H13 (fun v11 H14 =>
  ∃ x16 : Sl, v11 = .slice x16.p x16.n x16.c ∧ (
  CallsH Try.prog n_help_Equal_bool #[.slice x15.p x15.n x15.c, .slice x16.p x16.n x16.c] H14 (fun v12 H15 =>
  ∃ x17 : Bool, v12 = .bool x17 ∧ (
  iteB (!x17) (
  R (.bool false) H15) (
  letV (IntKind.i64.wrap (i + (1 : Int))) (fun i1 : Int =>
  I_ i1 H15 ∧ M_ i1 H15 < M_ i H7)))))))))))))))))))))))))) (
  CallsH Try.prog n_law39_awake #[] H7 (fun v13 H16 =>
  ∃ x18 : Bool, v13 = .bool x18 ∧ (
  R (.bool x18) H16)))

def F_law39_ThermalZoneAgrees_k2 (R : Value → Heap → Prop) (raw : Sl) (levels : Int) (temperatures : Sl) (x : Bool) (H1 : Heap) : Prop :=
  iteB x (
  CallsH Try.prog n_law39_awake #[] H1 (fun v H2 =>
  ∃ x1 : Bool, v = .bool x1 ∧ (
  R (.bool x1) H2))) (
  CallsH Try.prog n_law39_Trips #[.slice raw.p raw.n raw.c] H1 (fun v1 H3 =>
  ∃ l : Sl, v1 = .slice l.p l.n l.c ∧ (
  CallsH Try.prog n_help_Mod #[.int .i64 levels, .int .i64 (8 : Int)] H3 (fun v2 H4 =>
  ∃ n : Int, v2 = .int .i64 n ∧ (
  CallsH Try.prog n_thermal_NewZone #[.slice l.p l.n l.c, .int .i64 n] H4 (fun v3 H5 =>
  ∃ x2 : Option Addr, ∃ x3 : Int, v3 = .tuple #[.pointer x2, .int .i64 x3] ∧ (
  CallsH Try.prog n_ref39_NewZone #[.slice l.p l.n l.c, .int .i64 n] H5 (fun v4 H6 =>
  ∃ x4 : Option Addr, ∃ x5 : Int, v4 = .tuple #[.pointer x4, .int .i64 x5] ∧ (
  iteB (x3 != (0 : Int)) (
  R (.bool false) H6) (
  iteB (x5 != (0 : Int)) (
  R (.bool false) H6) (
  iteB x2.isNone (
  R (.bool false) H6) (
  ∃ I_ : Int → Heap → Prop, ∃ M_ : Int → Heap → Nat, I_ (0 : Int) H6 ∧ (∀ i : Int, ∀ H7 : Heap, I_ i H7 → F_law39_ThermalZoneAgrees_r1 R temperatures x2 x4 I_ M_ i H7)))))))))))))

def F_law39_ThermalZoneAgrees (R : Value → Heap → Prop) (raw : Sl) (levels : Int) (temperatures : Sl) (H : Heap) : Prop :=
  ∃ J_ : Bool → Heap → Prop, (
  iteB (decide ((raw.n : Int) > (20 : Int))) (
  J_ true H) (
  J_ (decide ((temperatures.n : Int) > (60 : Int))) H)) ∧ (∀ x : Bool, ∀ H1 : Heap, J_ x H1 → F_law39_ThermalZoneAgrees_k2 R raw levels temperatures x H1)

theorem F_law39_ThermalZoneAgrees_eq (R : Value → Heap → Prop) (raw : Sl) (levels : Int) (temperatures : Sl) (H : Heap) : wpF Try.prog Try.f6 [(13, .int .i64 0), (28, .bool false)] [(2, [28], [0, 1, 2])] [(9, [13], [2, 9, 11])] [18] [.slice raw.p raw.n raw.c, .int .i64 levels, .slice temperatures.p temperatures.n temperatures.c] H R = F_law39_ThermalZoneAgrees R raw levels temperatures H := by kernel_rfl

theorem F_law39_ThermalZoneAgrees_ok {R : Value → Heap → Prop} (raw : Sl) (levels : Int) (temperatures : Sl) {H : Heap} (h : F_law39_ThermalZoneAgrees R raw levels temperatures H) : CallsH Try.prog n_law39_ThermalZoneAgrees #[.slice raw.p raw.n raw.c, .int .i64 levels, .slice temperatures.p temperatures.n temperatures.c] H R :=
  wpF_ok Try.func6 (F_law39_ThermalZoneAgrees_eq R raw levels temperatures H) h

/-! ### 7: platformfw/platformfwlaw39.ThermalHysteresis -/

def F_law39_ThermalHysteresis_k1 (l : Sl) (now : Sl) (I_1 : Bool → Bool → Int → Heap → Prop) (M_1 : Bool → Bool → Int → Heap → Nat) (passive : Bool) (any : Bool) (k : Int) (H12 : Heap) (passive1 : Bool) (H14 : Heap) : Prop :=
  iteB any (
  letV (IntKind.i64.wrap (k + (1 : Int))) (fun k1 : Int =>
  I_1 passive1 true k1 H14 ∧ M_1 passive1 true k1 H14 < M_1 passive any k H12)) (
  0 ≤ k ∧ k < (now.n : Int) ∧ (unSome now.p (fun a31 =>
  ∃ x39 : Bool, rd H14 (a31.add (k.toNat * 1)) = some (.bool x39) ∧ (
  iteB x39 (
  0 ≤ k ∧ k < (l.n : Int) ∧ (unSome l.p (fun a32 =>
  ∃ x40 : Int, rd H14 (a32.add (k.toNat * 3)) = some (.int .i64 x40) ∧ (
  letV (IntKind.i64.wrap (k + (1 : Int))) (fun k2 : Int =>
  I_1 passive1 (x40 == (3 : Int)) k2 H14 ∧ M_1 passive1 (x40 == (3 : Int)) k2 H14 < M_1 passive any k H12))))) (
  letV (IntKind.i64.wrap (k + (1 : Int))) (fun k3 : Int =>
  I_1 passive1 false k3 H14 ∧ M_1 passive1 false k3 H14 < M_1 passive any k H12))))))

def F_law39_ThermalHysteresis_k2 (l : Sl) (now : Sl) (I_1 : Bool → Bool → Int → Heap → Prop) (M_1 : Bool → Bool → Int → Heap → Nat) (passive : Bool) (any : Bool) (k : Int) (H12 : Heap) (H13 : Heap) : Prop :=
  ∃ J_2 : Bool → Heap → Prop, (
  iteB passive (
  J_2 true H13) (
  0 ≤ k ∧ k < (now.n : Int) ∧ (unSome now.p (fun a29 =>
  ∃ x37 : Bool, rd H13 (a29.add (k.toNat * 1)) = some (.bool x37) ∧ (
  iteB x37 (
  0 ≤ k ∧ k < (l.n : Int) ∧ (unSome l.p (fun a30 =>
  ∃ x38 : Int, rd H13 (a30.add (k.toNat * 3)) = some (.int .i64 x38) ∧ (
  J_2 (x38 == (2 : Int)) H13)))) (
  J_2 false H13)))))) ∧ (∀ passive1 : Bool, ∀ H14 : Heap, J_2 passive1 H14 → F_law39_ThermalHysteresis_k1 l now I_1 M_1 passive any k H12 passive1 H14)

def F_law39_ThermalHysteresis_r3 (R : Value → Heap → Prop) (l : Sl) (I_ : Sl → Int → Int → Heap → Prop) (M_ : Sl → Int → Int → Heap → Nat) (was : Sl) (level : Int) (i : Int) (H7 : Heap) (t : Int) (x5 : Int) (x6 : Bool) (now : Sl) (I_1 : Bool → Bool → Int → Heap → Prop) (M_1 : Bool → Bool → Int → Heap → Nat) (passive : Bool) (any : Bool) (k : Int) (H12 : Heap) : Prop :=
  iteB (decide (k < (l.n : Int))) (
  ∃ J_1 : Heap → Prop, (
  0 ≤ k ∧ k < (l.n : Int) ∧ (unSome l.p (fun a1 =>
  ∃ x9 : Int, rd H12 ((a1.add (k.toNat * 3)).add 1) = some (.int .i64 x9) ∧ (
  iteB (decide (t ≥ x9)) (
  0 ≤ k ∧ k < (now.n : Int) ∧ (unSome now.p (fun a2 =>
  ∃ x10 : Bool, rd H12 (a2.add (k.toNat * 1)) = some (.bool x10) ∧ (
  iteB (!x10) (
  R (.bool false) H12) (
  0 ≤ k ∧ k < (l.n : Int) ∧ (unSome l.p (fun a3 =>
  ∃ x11 : Int, rd H12 ((a3.add (k.toNat * 3)).add 1) = some (.int .i64 x11) ∧ (
  0 ≤ k ∧ k < (l.n : Int) ∧ (unSome l.p (fun a4 =>
  ∃ x12 : Int, rd H12 ((a4.add (k.toNat * 3)).add 2) = some (.int .i64 x12) ∧ (
  iteB (decide (t < (IntKind.i64.wrap (x11 - x12)))) (
  0 ≤ k ∧ k < (now.n : Int) ∧ (unSome now.p (fun a5 =>
  ∃ x13 : Bool, rd H12 (a5.add (k.toNat * 1)) = some (.bool x13) ∧ (
  iteB x13 (
  R (.bool false) H12) (
  0 ≤ k ∧ k < (l.n : Int) ∧ (unSome l.p (fun a6 =>
  ∃ x14 : Int, rd H12 ((a6.add (k.toNat * 3)).add 1) = some (.int .i64 x14) ∧ (
  iteB (decide (t < x14)) (
  0 ≤ k ∧ k < (l.n : Int) ∧ (unSome l.p (fun a7 =>
  ∃ x15 : Int, rd H12 ((a7.add (k.toNat * 3)).add 1) = some (.int .i64 x15) ∧ (
  0 ≤ k ∧ k < (l.n : Int) ∧ (unSome l.p (fun a8 =>
  ∃ x16 : Int, rd H12 ((a8.add (k.toNat * 3)).add 2) = some (.int .i64 x16) ∧ (
  iteB (decide (t ≥ (IntKind.i64.wrap (x15 - x16)))) (
  0 ≤ k ∧ k < (now.n : Int) ∧ (unSome now.p (fun a9 =>
  ∃ x17 : Bool, rd H12 (a9.add (k.toNat * 1)) = some (.bool x17) ∧ (
  0 ≤ k ∧ k < (was.n : Int) ∧ (unSome was.p (fun a10 =>
  ∃ x18 : Bool, rd H12 (a10.add (k.toNat * 1)) = some (.bool x18) ∧ (
  iteB (!(x17 == x18)) (
  R (.bool false) H12) (
  J_1 H12)))))))) (
  J_1 H12)))))))) (
  J_1 H12))))))))) (
  0 ≤ k ∧ k < (l.n : Int) ∧ (unSome l.p (fun a11 =>
  ∃ x19 : Int, rd H12 ((a11.add (k.toNat * 3)).add 1) = some (.int .i64 x19) ∧ (
  iteB (decide (t < x19)) (
  0 ≤ k ∧ k < (l.n : Int) ∧ (unSome l.p (fun a12 =>
  ∃ x20 : Int, rd H12 ((a12.add (k.toNat * 3)).add 1) = some (.int .i64 x20) ∧ (
  0 ≤ k ∧ k < (l.n : Int) ∧ (unSome l.p (fun a13 =>
  ∃ x21 : Int, rd H12 ((a13.add (k.toNat * 3)).add 2) = some (.int .i64 x21) ∧ (
  iteB (decide (t ≥ (IntKind.i64.wrap (x20 - x21)))) (
  0 ≤ k ∧ k < (now.n : Int) ∧ (unSome now.p (fun a14 =>
  ∃ x22 : Bool, rd H12 (a14.add (k.toNat * 1)) = some (.bool x22) ∧ (
  0 ≤ k ∧ k < (was.n : Int) ∧ (unSome was.p (fun a15 =>
  ∃ x23 : Bool, rd H12 (a15.add (k.toNat * 1)) = some (.bool x23) ∧ (
  iteB (!(x22 == x23)) (
  R (.bool false) H12) (
  J_1 H12)))))))) (
  J_1 H12)))))))) (
  J_1 H12)))))))))))))))) (
  0 ≤ k ∧ k < (l.n : Int) ∧ (unSome l.p (fun a16 =>
  ∃ x24 : Int, rd H12 ((a16.add (k.toNat * 3)).add 1) = some (.int .i64 x24) ∧ (
  0 ≤ k ∧ k < (l.n : Int) ∧ (unSome l.p (fun a17 =>
  ∃ x25 : Int, rd H12 ((a17.add (k.toNat * 3)).add 2) = some (.int .i64 x25) ∧ (
  iteB (decide (t < (IntKind.i64.wrap (x24 - x25)))) (
  0 ≤ k ∧ k < (now.n : Int) ∧ (unSome now.p (fun a18 =>
  ∃ x26 : Bool, rd H12 (a18.add (k.toNat * 1)) = some (.bool x26) ∧ (
  iteB x26 (
  R (.bool false) H12) (
  0 ≤ k ∧ k < (l.n : Int) ∧ (unSome l.p (fun a19 =>
  ∃ x27 : Int, rd H12 ((a19.add (k.toNat * 3)).add 1) = some (.int .i64 x27) ∧ (
  iteB (decide (t < x27)) (
  0 ≤ k ∧ k < (l.n : Int) ∧ (unSome l.p (fun a20 =>
  ∃ x28 : Int, rd H12 ((a20.add (k.toNat * 3)).add 1) = some (.int .i64 x28) ∧ (
  0 ≤ k ∧ k < (l.n : Int) ∧ (unSome l.p (fun a21 =>
  ∃ x29 : Int, rd H12 ((a21.add (k.toNat * 3)).add 2) = some (.int .i64 x29) ∧ (
  iteB (decide (t ≥ (IntKind.i64.wrap (x28 - x29)))) (
  0 ≤ k ∧ k < (now.n : Int) ∧ (unSome now.p (fun a22 =>
  ∃ x30 : Bool, rd H12 (a22.add (k.toNat * 1)) = some (.bool x30) ∧ (
  0 ≤ k ∧ k < (was.n : Int) ∧ (unSome was.p (fun a23 =>
  ∃ x31 : Bool, rd H12 (a23.add (k.toNat * 1)) = some (.bool x31) ∧ (
  iteB (!(x30 == x31)) (
  R (.bool false) H12) (
  J_1 H12)))))))) (
  J_1 H12)))))))) (
  J_1 H12))))))))) (
  0 ≤ k ∧ k < (l.n : Int) ∧ (unSome l.p (fun a24 =>
  ∃ x32 : Int, rd H12 ((a24.add (k.toNat * 3)).add 1) = some (.int .i64 x32) ∧ (
  iteB (decide (t < x32)) (
  0 ≤ k ∧ k < (l.n : Int) ∧ (unSome l.p (fun a25 =>
  ∃ x33 : Int, rd H12 ((a25.add (k.toNat * 3)).add 1) = some (.int .i64 x33) ∧ (
  0 ≤ k ∧ k < (l.n : Int) ∧ (unSome l.p (fun a26 =>
  ∃ x34 : Int, rd H12 ((a26.add (k.toNat * 3)).add 2) = some (.int .i64 x34) ∧ (
  iteB (decide (t ≥ (IntKind.i64.wrap (x33 - x34)))) (
  0 ≤ k ∧ k < (now.n : Int) ∧ (unSome now.p (fun a27 =>
  ∃ x35 : Bool, rd H12 (a27.add (k.toNat * 1)) = some (.bool x35) ∧ (
  0 ≤ k ∧ k < (was.n : Int) ∧ (unSome was.p (fun a28 =>
  ∃ x36 : Bool, rd H12 (a28.add (k.toNat * 1)) = some (.bool x36) ∧ (
  iteB (!(x35 == x36)) (
  R (.bool false) H12) (
  J_1 H12)))))))) (
  J_1 H12)))))))) (
  J_1 H12)))))))))))))))) ∧ (∀ H13 : Heap, J_1 H13 → F_law39_ThermalHysteresis_k2 l now I_1 M_1 passive any k H12 H13)) (
  iteB (!(x6 == any)) (
  R (.bool false) H12) (
  iteB passive (
  iteB (decide (x5 < level)) (
  R (.bool false) H12) (
  iteB (!passive) (
  iteB (decide (x5 > level)) (
  R (.bool false) H12) (
  letV (IntKind.i64.wrap (i + (1 : Int))) (fun i1 : Int =>
  I_ now x5 i1 H12 ∧ M_ now x5 i1 H12 < M_ was level i H7))) (
  letV (IntKind.i64.wrap (i + (1 : Int))) (fun i2 : Int =>
  I_ now x5 i2 H12 ∧ M_ now x5 i2 H12 < M_ was level i H7)))) (
  iteB (!passive) (
  iteB (decide (x5 > level)) (
  R (.bool false) H12) (
  letV (IntKind.i64.wrap (i + (1 : Int))) (fun i3 : Int =>
  I_ now x5 i3 H12 ∧ M_ now x5 i3 H12 < M_ was level i H7))) (
  letV (IntKind.i64.wrap (i + (1 : Int))) (fun i4 : Int =>
  I_ now x5 i4 H12 ∧ M_ now x5 i4 H12 < M_ was level i H7)))))

def F_law39_ThermalHysteresis_r4 (R : Value → Heap → Prop) (temperatures : Sl) (l : Sl) (n : Int) (x2 : Option Addr) (I_ : Sl → Int → Int → Heap → Prop) (M_ : Sl → Int → Int → Heap → Nat) (was : Sl) (level : Int) (i : Int) (H7 : Heap) : Prop :=
  iteB (decide (i < (temperatures.n : Int))) (
  0 ≤ i ∧ i < (temperatures.n : Int) ∧ (unSome temperatures.p (fun a =>
  ∃ x4 : Int, rd H7 (a.add (i.toNat * 1)) = some (.int .i64 x4) ∧ (
  CallsH Try.prog n_law39_degree #[.int .i64 x4, .int .i64 (0 : Int)] H7 (fun v4 H8 =>
  ∃ t : Int, v4 = .int .i64 t ∧ (
  CallsH Try.prog n_thermal_Zone_Update #[.pointer x2, .int .i64 t] H8 (fun v5 H9 =>
  ∃ x5 : Int, ∃ x6 : Bool, ∃ x7 : Int, v5 = .tuple #[.int .i64 x5, .bool x6, .int .i64 x7] ∧ (
  CallsH Try.prog n_thermal_Zone_Active #[.pointer x2] H9 (fun v6 H10 =>
  ∃ now : Sl, v6 = .slice now.p now.n now.c ∧ (
  iteB (x7 != (0 : Int)) (
  R (.bool false) H10) (
  iteB ((now.n : Int) != (l.n : Int)) (
  R (.bool false) H10) (
  iteB (decide (x5 < (0 : Int))) (
  R (.bool false) H10) (
  iteB (decide (x5 > n)) (
  R (.bool false) H10) (
  iteB (decide (x5 > (IntKind.i64.wrap (level + (1 : Int))))) (
  R (.bool false) H10) (
  iteB (decide (x5 < (IntKind.i64.wrap (level - (1 : Int))))) (
  R (.bool false) H10) (
  CallsH Try.prog n_thermal_Zone_Level #[.pointer x2] H10 (fun v7 H11 =>
  ∃ x8 : Int, v7 = .int .i64 x8 ∧ (
  iteB (x5 != x8) (
  R (.bool false) H11) (
  ∃ I_1 : Bool → Bool → Int → Heap → Prop, ∃ M_1 : Bool → Bool → Int → Heap → Nat, I_1 false false (0 : Int) H11 ∧ (∀ passive : Bool, ∀ any : Bool, ∀ k : Int, ∀ H12 : Heap, I_1 passive any k H12 → F_law39_ThermalHysteresis_r3 R l I_ M_ was level i H7 t x5 x6 now I_1 M_1 passive any k H12)))))))))))))))))))) (
  CallsH Try.prog n_law39_awake #[] H7 (fun v8 H15 =>
  ∃ x41 : Bool, v8 = .bool x41 ∧ (
  R (.bool x41) H15)))

def F_law39_ThermalHysteresis_k5 (R : Value → Heap → Prop) (raw : Sl) (levels : Int) (temperatures : Sl) (x : Bool) (H1 : Heap) : Prop :=
  iteB x (
  CallsH Try.prog n_law39_awake #[] H1 (fun v H2 =>
  ∃ x1 : Bool, v = .bool x1 ∧ (
  R (.bool x1) H2))) (
  CallsH Try.prog n_law39_Trips #[.slice raw.p raw.n raw.c] H1 (fun v1 H3 =>
  ∃ l : Sl, v1 = .slice l.p l.n l.c ∧ (
  CallsH Try.prog n_help_Mod #[.int .i64 levels, .int .i64 (8 : Int)] H3 (fun v2 H4 =>
  ∃ n : Int, v2 = .int .i64 n ∧ (
  CallsH Try.prog n_thermal_NewZone #[.slice l.p l.n l.c, .int .i64 n] H4 (fun v3 H5 =>
  ∃ x2 : Option Addr, ∃ x3 : Int, v3 = .tuple #[.pointer x2, .int .i64 x3] ∧ (
  iteB (x3 != (0 : Int)) (
  R (.bool false) H5) (
  iteB x2.isNone (
  R (.bool false) H5) (
  0 ≤ (l.n : Int) ∧ (l.n : Int) ≤ (l.n : Int) ∧ (l.n : Int) * ((1 : Nat) : Int) ≤ 281474976710656 ∧ (
  letH (H5.push (.cells (zeroRow (.bool false) (l.n : Int).toNat) t_bool (0, 0))) (fun H6 : Heap =>
  ∃ I_ : Sl → Int → Int → Heap → Prop, ∃ M_ : Sl → Int → Int → Heap → Nat, I_ (Sl.mk (some (⟨H5.size, 0, none⟩ : Addr)) ((l.n : Int).toNat) ((l.n : Int).toNat)) (0 : Int) (0 : Int) H6 ∧ (∀ was : Sl, ∀ level : Int, ∀ i : Int, ∀ H7 : Heap, I_ was level i H7 → F_law39_ThermalHysteresis_r4 R temperatures l n x2 I_ M_ was level i H7))))))))))))

def F_law39_ThermalHysteresis (R : Value → Heap → Prop) (raw : Sl) (levels : Int) (temperatures : Sl) (H : Heap) : Prop :=
  ∃ J_ : Bool → Heap → Prop, (
  iteB (decide ((raw.n : Int) > (20 : Int))) (
  J_ true H) (
  J_ (decide ((temperatures.n : Int) > (60 : Int))) H)) ∧ (∀ x : Bool, ∀ H1 : Heap, J_ x H1 → F_law39_ThermalHysteresis_k5 R raw levels temperatures x H1)

theorem F_law39_ThermalHysteresis_eq (R : Value → Heap → Prop) (raw : Sl) (levels : Int) (temperatures : Sl) (H : Heap) : wpF Try.prog Try.f7 [(11, .slice none 0 0), (12, .int .i64 0), (13, .int .i64 0), (19, .bool false), (20, .bool false), (21, .int .i64 0), (29, .bool false)] [(2, [29], [0, 1, 2]), (22, [], [2, 7, 8, 9, 11, 12, 13, 14, 15, 16, 18, 19, 20, 21]), (23, [19], [2, 7, 8, 9, 11, 12, 13, 14, 15, 16, 18, 20, 21])] [(9, [11, 12, 13], [2, 7, 8, 9]), (18, [19, 20, 21], [2, 7, 8, 9, 11, 12, 13, 14, 15, 16, 18])] [18] [.slice raw.p raw.n raw.c, .int .i64 levels, .slice temperatures.p temperatures.n temperatures.c] H R = F_law39_ThermalHysteresis R raw levels temperatures H := by kernel_rfl

theorem F_law39_ThermalHysteresis_ok {R : Value → Heap → Prop} (raw : Sl) (levels : Int) (temperatures : Sl) {H : Heap} (h : F_law39_ThermalHysteresis R raw levels temperatures H) : CallsH Try.prog n_law39_ThermalHysteresis #[.slice raw.p raw.n raw.c, .int .i64 levels, .slice temperatures.p temperatures.n temperatures.c] H R :=
  wpF_ok Try.func7 (F_law39_ThermalHysteresis_eq R raw levels temperatures H) h

/-! ### 8: platformfw/platformfwlaw39.ThermalAllocateIsFair -/

def F_law39_ThermalAllocateIsFair_r1 (R : Value → Heap → Prop) (l : Sl) (b : Int) (x1 : Sl) (least : Int) (all : Int) (I_1 : Int → Int → Heap → Prop) (M_1 : Int → Int → Heap → Nat) (sum : Int) (i2 : Int) (H8 : Heap) : Prop :=
  iteB (decide (i2 < (x1.n : Int))) (
  0 ≤ i2 ∧ i2 < (x1.n : Int) ∧ (unSome x1.p (fun a2 =>
  ∃ x10 : Int, rd H8 (a2.add (i2.toNat * 1)) = some (.int .u64 x10) ∧ (
  0 ≤ i2 ∧ i2 < (l.n : Int) ∧ (unSome l.p (fun a3 =>
  ∃ x11 : Int, rd H8 ((a3.add (i2.toNat * 3)).add 1) = some (.int .u64 x11) ∧ (
  iteB (decide (x10 < x11)) (
  R (.bool false) H8) (
  0 ≤ i2 ∧ i2 < (x1.n : Int) ∧ (unSome x1.p (fun a4 =>
  ∃ x12 : Int, rd H8 (a4.add (i2.toNat * 1)) = some (.int .u64 x12) ∧ (
  0 ≤ i2 ∧ i2 < (l.n : Int) ∧ (unSome l.p (fun a5 =>
  ∃ x13 : Int, rd H8 (a5.add (i2.toNat * 3)) = some (.int .u64 x13) ∧ ∃ x14 : Int, rd H8 ((a5.add (i2.toNat * 3)).add 1) = some (.int .u64 x14) ∧ ∃ x15 : Int, rd H8 ((a5.add (i2.toNat * 3)).add 2) = some (.int .u64 x15) ∧ (
  CallsH Try.prog n_law39_want #[.agg #[.int .u64 x13, .int .u64 x14, .int .u64 x15]] H8 (fun v6 H9 =>
  ∃ x16 : Int, v6 = .int .u64 x16 ∧ (
  Ext H8 H9 ∧ (
  iteB (decide (x12 > x16)) (
  R (.bool false) H9) (
  0 ≤ i2 ∧ i2 < (x1.n : Int) ∧ (unSome x1.p (fun a6 =>
  ∃ x17 : Int, rd H9 (a6.add (i2.toNat * 1)) = some (.int .u64 x17) ∧ (
  letV (IntKind.u64.wrap (sum + x17)) (fun sum1 : Int =>
  letV (IntKind.i64.wrap (i2 + (1 : Int))) (fun i3 : Int =>
  I_1 sum1 i3 H9 ∧ M_1 sum1 i3 H9 < M_1 sum i2 H8))))))))))))))))))))))) (
  iteB (decide (least ≤ b)) (
  iteB (sum == (if all < b then all else b)) (
  CallsH Try.prog n_law39_awake #[] H8 (fun v7 H10 =>
  ∃ x18 : Bool, v7 = .bool x18 ∧ (
  R (.bool x18) H10))) (
  R (.bool false) H8)) (
  R (.bool false) H8))

def F_law39_ThermalAllocateIsFair_r2 (R : Value → Heap → Prop) (l : Sl) (b : Int) (x1 : Sl) (x2 : Int) (I_ : Int → Int → Int → Heap → Prop) (M_ : Int → Int → Int → Heap → Nat) (least : Int) (all : Int) (i : Int) (H4 : Heap) : Prop :=
  iteB (decide (i < (l.n : Int))) (
  0 ≤ i ∧ i < (l.n : Int) ∧ (unSome l.p (fun a =>
  ∃ x3 : Int, rd H4 ((a.add (i.toNat * 3)).add 1) = some (.int .u64 x3) ∧ (
  0 ≤ i ∧ i < (l.n : Int) ∧ (unSome l.p (fun a1 =>
  ∃ x4 : Int, rd H4 (a1.add (i.toNat * 3)) = some (.int .u64 x4) ∧ ∃ x5 : Int, rd H4 ((a1.add (i.toNat * 3)).add 1) = some (.int .u64 x5) ∧ ∃ x6 : Int, rd H4 ((a1.add (i.toNat * 3)).add 2) = some (.int .u64 x6) ∧ (
  CallsH Try.prog n_law39_want #[.agg #[.int .u64 x4, .int .u64 x5, .int .u64 x6]] H4 (fun v3 H5 =>
  ∃ x7 : Int, v3 = .int .u64 x7 ∧ (
  Ext H4 H5 ∧ (
  letV (IntKind.u64.wrap (least + x3)) (fun least1 : Int =>
  letV (IntKind.u64.wrap (all + x7)) (fun all1 : Int =>
  letV (IntKind.i64.wrap (i + (1 : Int))) (fun i1 : Int =>
  I_ least1 all1 i1 H5 ∧ M_ least1 all1 i1 H5 < M_ least all i H4))))))))))))) (
  iteB (x2 != (0 : Int)) (
  iteB (x2 == (19 : Int)) (
  iteB (decide (least > b)) (
  CallsH Try.prog n_law39_awake #[] H4 (fun v4 H6 =>
  ∃ x8 : Bool, v4 = .bool x8 ∧ (
  R (.bool x8) H6))) (
  R (.bool false) H4)) (
  R (.bool false) H4)) (
  iteB ((x1.n : Int) != (l.n : Int)) (
  R (.bool false) H4) (
  CallsH Try.prog n_thermal_Fair #[.int .u64 b, .slice l.p l.n l.c, .slice x1.p x1.n x1.c] H4 (fun v5 H7 =>
  ∃ x9 : Bool, v5 = .bool x9 ∧ (
  iteB (!x9) (
  R (.bool false) H7) (
  ∃ I_1 : Int → Int → Heap → Prop, ∃ M_1 : Int → Int → Heap → Nat, I_1 (0 : Int) (0 : Int) H7 ∧ (∀ sum : Int, ∀ i2 : Int, ∀ H8 : Heap, I_1 sum i2 H8 → F_law39_ThermalAllocateIsFair_r1 R l b x1 least all I_1 M_1 sum i2 H8)))))))

def F_law39_ThermalAllocateIsFair (R : Value → Heap → Prop) (budget : Int) (raw : Sl) (H : Heap) : Prop :=
  iteB (decide ((raw.n : Int) > (40 : Int))) (
  CallsH Try.prog n_law39_awake #[] H (fun v H1 =>
  ∃ x : Bool, v = .bool x ∧ (
  R (.bool x) H1))) (
  CallsH Try.prog n_law39_Actors #[.slice raw.p raw.n raw.c] H (fun v1 H2 =>
  ∃ l : Sl, v1 = .slice l.p l.n l.c ∧ (
  letV (budget.tmod (200 : Int)) (fun b : Int =>
  CallsH Try.prog n_thermal_Allocate #[.int .u64 b, .slice l.p l.n l.c] H2 (fun v2 H3 =>
  ∃ x1 : Sl, ∃ x2 : Int, v2 = .tuple #[.slice x1.p x1.n x1.c, .int .i64 x2] ∧ (
  ∃ I_ : Int → Int → Int → Heap → Prop, ∃ M_ : Int → Int → Int → Heap → Nat, I_ (0 : Int) (0 : Int) (0 : Int) H3 ∧ (∀ least : Int, ∀ all : Int, ∀ i : Int, ∀ H4 : Heap, I_ least all i H4 → F_law39_ThermalAllocateIsFair_r2 R l b x1 x2 I_ M_ least all i H4)))))))

theorem F_law39_ThermalAllocateIsFair_eq (R : Value → Heap → Prop) (budget : Int) (raw : Sl) (H : Heap) : wpF Try.prog Try.f8 [(9, .int .u64 0), (10, .int .u64 0), (11, .int .u64 0), (12, .int .i64 0), (13, .int .i64 0)] [] [(8, [9, 10, 12], [5, 6, 7, 8, 11]), (16, [11, 13], [5, 6, 7, 9, 10])] [18] [.int .u64 budget, .slice raw.p raw.n raw.c] H R = F_law39_ThermalAllocateIsFair R budget raw H := by kernel_rfl

theorem F_law39_ThermalAllocateIsFair_ok {R : Value → Heap → Prop} (budget : Int) (raw : Sl) {H : Heap} (h : F_law39_ThermalAllocateIsFair R budget raw H) : CallsH Try.prog n_law39_ThermalAllocateIsFair #[.int .u64 budget, .slice raw.p raw.n raw.c] H R :=
  wpF_ok Try.func8 (F_law39_ThermalAllocateIsFair_eq R budget raw H) h

/-! ### 9: platformfw/platformfwlaw39.ThermalFairAgrees -/

def F_law39_ThermalFairAgrees_r1 (grants : Sl) (l : Sl) (J_1 : Sl → Heap → Prop) (I_ : Sl → Int → Heap → Prop) (M_ : Sl → Int → Heap → Nat) (somev : Sl) (i : Int) (H4 : Heap) : Prop :=
  iteB (decide (i < (l.n : Int))) (
  iteB (decide (i < (grants.n : Int))) (
  0 ≤ i ∧ i < (grants.n : Int) ∧ (unSome grants.p (fun a =>
  ∃ x2 : Int, rd H4 (a.add (i.toNat * 1)) = some (.int .u64 x2) ∧ (
  letH (H4.push (.cells #[.int .u64 (x2.tmod (40 : Int))] t_uint64 (0, 0))) (fun H5 : Heap =>
  runH Try.prog (Builtin.append_ #[t_sl_uint64, t_sl_uint64] t_sl_uint64 #[.slice somev.p somev.n somev.c, .slice (some (⟨H4.size, 0, none⟩ : Addr)) 1 1]) H5 (fun v2 H6 =>
  ∃ somev1 : Sl, v2 = .slice somev1.p somev1.n somev1.c ∧ (
  letV (IntKind.i64.wrap (i + (1 : Int))) (fun i1 : Int =>
  I_ somev1 i1 H6 ∧ M_ somev1 i1 H6 < M_ somev i H4)))))))) (
  J_1 somev H4)) (
  J_1 somev H4)

def F_law39_ThermalFairAgrees_k2 (R : Value → Heap → Prop) (l : Sl) (b : Int) (x7 : Sl) (H19 : Heap) : Prop :=
  CallsH Try.prog n_thermal_Fair #[.int .u64 b, .slice l.p l.n l.c, .slice x7.p x7.n x7.c] H19 (fun v11 H20 =>
  ∃ x14 : Bool, v11 = .bool x14 ∧ (
  CallsH Try.prog n_ref39_Fair #[.int .u64 b, .slice l.p l.n l.c, .slice x7.p x7.n x7.c] H20 (fun v12 H21 =>
  ∃ x15 : Bool, v12 = .bool x15 ∧ (
  iteB (x14 == x15) (
  CallsH Try.prog n_law39_awake #[] H21 (fun v13 H22 =>
  ∃ x16 : Bool, v13 = .bool x16 ∧ (
  R (.bool x16) H22))) (
  R (.bool false) H21)))))

def F_law39_ThermalFairAgrees_k3 (R : Value → Heap → Prop) (k : Int) (m : Int) (l : Sl) (b : Int) (x7 : Sl) (x9 : Bool) (H13 : Heap) : Prop :=
  iteB x9 (
  CallsH Try.prog n_law39_awake #[] H13 (fun v8 H14 =>
  ∃ x10 : Bool, v8 = .bool x10 ∧ (
  R (.bool x10) H14))) (
  CallsH Try.prog n_help_Mod #[.int .i64 k, .int .i64 (x7.n : Int)] H13 (fun v9 H15 =>
  ∃ i2 : Int, v9 = .int .i64 i2 ∧ (
  CallsH Try.prog n_help_Mod #[.int .i64 m, .int .i64 (x7.n : Int)] H15 (fun v10 H16 =>
  ∃ j : Int, v10 = .int .i64 j ∧ (
  ∃ J_3 : Heap → Prop, (
  0 ≤ i2 ∧ i2 < (x7.n : Int) ∧ (unSome x7.p (fun a1 =>
  ∃ x11 : Int, rd H16 (a1.add (i2.toNat * 1)) = some (.int .u64 x11) ∧ (
  iteB (decide (x11 > (0 : Int))) (
  0 ≤ i2 ∧ i2 < (x7.n : Int) ∧ (unSome x7.p (fun a2 =>
  ∃ x12 : Int, rd H16 (a2.add (i2.toNat * 1)) = some (.int .u64 x12) ∧ (
  0 ≤ i2 ∧ i2 < (x7.n : Int) ∧ (unSome x7.p (fun a3 =>
  okRow H16 (a3.add (i2.toNat * 1)) 1 ∧ (
  letH (wrs H16 (a3.add (i2.toNat * 1)) [.int .u64 (IntKind.u64.wrap (x12 - (1 : Int)))]) (fun H17 : Heap =>
  0 ≤ j ∧ j < (x7.n : Int) ∧ (unSome x7.p (fun a4 =>
  ∃ x13 : Int, rd H17 (a4.add (j.toNat * 1)) = some (.int .u64 x13) ∧ (
  0 ≤ j ∧ j < (x7.n : Int) ∧ (unSome x7.p (fun a5 =>
  okRow H17 (a5.add (j.toNat * 1)) 1 ∧ (
  letH (wrs H17 (a5.add (j.toNat * 1)) [.int .u64 (IntKind.u64.wrap (x13 + (1 : Int)))]) (fun H18 : Heap =>
  J_3 H18))))))))))))))) (
  J_3 H16))))) ∧ (∀ H19 : Heap, J_3 H19 → F_law39_ThermalFairAgrees_k2 R l b x7 H19))))))

def F_law39_ThermalFairAgrees_k4 (R : Value → Heap → Prop) (budget : Int) (raw : Sl) (grants : Sl) (k : Int) (m : Int) (l : Sl) (b : Int) (somev2 : Sl) (H7 : Heap) : Prop :=
  CallsH Try.prog n_thermal_Fair #[.int .u64 budget, .slice raw.p raw.n raw.c, .slice grants.p grants.n grants.c] H7 (fun v3 H8 =>
  ∃ x3 : Bool, v3 = .bool x3 ∧ (
  CallsH Try.prog n_ref39_Fair #[.int .u64 budget, .slice raw.p raw.n raw.c, .slice grants.p grants.n grants.c] H8 (fun v4 H9 =>
  ∃ x4 : Bool, v4 = .bool x4 ∧ (
  iteB (!(x3 == x4)) (
  R (.bool false) H9) (
  CallsH Try.prog n_thermal_Fair #[.int .u64 b, .slice l.p l.n l.c, .slice somev2.p somev2.n somev2.c] H9 (fun v5 H10 =>
  ∃ x5 : Bool, v5 = .bool x5 ∧ (
  CallsH Try.prog n_ref39_Fair #[.int .u64 b, .slice l.p l.n l.c, .slice somev2.p somev2.n somev2.c] H10 (fun v6 H11 =>
  ∃ x6 : Bool, v6 = .bool x6 ∧ (
  iteB (!(x5 == x6)) (
  R (.bool false) H11) (
  CallsH Try.prog n_ref39_Allocate #[.int .u64 b, .slice l.p l.n l.c] H11 (fun v7 H12 =>
  ∃ x7 : Sl, ∃ x8 : Int, v7 = .tuple #[.slice x7.p x7.n x7.c, .int .i64 x8] ∧ (
  ∃ J_2 : Bool → Heap → Prop, (
  iteB (x8 != (0 : Int)) (
  J_2 true H12) (
  J_2 ((x7.n : Int) == (0 : Int)) H12)) ∧ (∀ x9 : Bool, ∀ H13 : Heap, J_2 x9 H13 → F_law39_ThermalFairAgrees_k3 R k m l b x7 x9 H13)))))))))))))

def F_law39_ThermalFairAgrees_k5 (R : Value → Heap → Prop) (budget : Int) (raw : Sl) (grants : Sl) (k : Int) (m : Int) (x : Bool) (H1 : Heap) : Prop :=
  iteB x (
  CallsH Try.prog n_law39_awake #[] H1 (fun v H2 =>
  ∃ x1 : Bool, v = .bool x1 ∧ (
  R (.bool x1) H2))) (
  CallsH Try.prog n_law39_Actors #[.slice raw.p raw.n raw.c] H1 (fun v1 H3 =>
  ∃ l : Sl, v1 = .slice l.p l.n l.c ∧ (
  letV (budget.tmod (200 : Int)) (fun b : Int =>
  ∃ J_1 : Sl → Heap → Prop, (
  ∃ I_ : Sl → Int → Heap → Prop, ∃ M_ : Sl → Int → Heap → Nat, I_ (Sl.mk none 0 0) (0 : Int) H3 ∧ (∀ somev : Sl, ∀ i : Int, ∀ H4 : Heap, I_ somev i H4 → F_law39_ThermalFairAgrees_r1 grants l J_1 I_ M_ somev i H4)) ∧ (∀ somev2 : Sl, ∀ H7 : Heap, J_1 somev2 H7 → F_law39_ThermalFairAgrees_k4 R budget raw grants k m l b somev2 H7)))))

def F_law39_ThermalFairAgrees (R : Value → Heap → Prop) (budget : Int) (raw : Sl) (grants : Sl) (k : Int) (m : Int) (H : Heap) : Prop :=
  ∃ J_ : Bool → Heap → Prop, (
  iteB (decide ((raw.n : Int) > (40 : Int))) (
  J_ true H) (
  J_ (decide ((grants.n : Int) > (40 : Int))) H)) ∧ (∀ x : Bool, ∀ H1 : Heap, J_ x H1 → F_law39_ThermalFairAgrees_k5 R budget raw grants k m x H1)

theorem F_law39_ThermalFairAgrees_eq (R : Value → Heap → Prop) (budget : Int) (raw : Sl) (grants : Sl) (k : Int) (m : Int) (H : Heap) : wpF Try.prog Try.f9 [(13, .slice none 0 0), (14, .int .i64 0), (26, .bool false), (84, .bool false)] [(2, [26], [0, 1, 2, 3, 4]), (10, [13], [0, 1, 2, 3, 4, 11, 12]), (14, [84], [3, 4, 11, 12, 15]), (19, [], [11, 12, 15])] [(7, [13, 14], [0, 1, 2, 3, 4, 11, 12])] [18] [.int .u64 budget, .slice raw.p raw.n raw.c, .slice grants.p grants.n grants.c, .int .i64 k, .int .i64 m] H R = F_law39_ThermalFairAgrees R budget raw grants k m H := by kernel_rfl

theorem F_law39_ThermalFairAgrees_ok {R : Value → Heap → Prop} (budget : Int) (raw : Sl) (grants : Sl) (k : Int) (m : Int) {H : Heap} (h : F_law39_ThermalFairAgrees R budget raw grants k m H) : CallsH Try.prog n_law39_ThermalFairAgrees #[.int .u64 budget, .slice raw.p raw.n raw.c, .slice grants.p grants.n grants.c, .int .i64 k, .int .i64 m] H R :=
  wpF_ok Try.func9 (F_law39_ThermalFairAgrees_eq R budget raw grants k m H) h

/-! ### 10: platformfw/platformfwlaw39.ThermalThrottle -/

def F_law39_ThermalThrottle (R : Value → Heap → Prop) (raw : Sl) (granted : Int) (H : Heap) : Prop :=
  iteB (decide ((raw.n : Int) > (20 : Int))) (
  CallsH Try.prog n_law39_awake #[] H (fun v H1 =>
  ∃ x : Bool, v = .bool x ∧ (
  R (.bool x) H1))) (
  CallsH Try.prog n_law36_Table #[.slice raw.p raw.n raw.c] H (fun v1 H2 =>
  ∃ t : Sl, v1 = .slice t.p t.n t.c ∧ (
  letV (granted.tmod (250 : Int)) (fun w : Int =>
  CallsH Try.prog n_thermal_Throttle #[.slice raw.p raw.n raw.c, .int .u64 granted] H2 (fun v2 H3 =>
  ∃ x1 : Int, ∃ x2 : Int, v2 = .tuple #[.int .i64 x1, .int .i64 x2] ∧ (
  CallsH Try.prog n_ref39_Throttle #[.slice raw.p raw.n raw.c, .int .u64 granted] H3 (fun v3 H4 =>
  ∃ x3 : Int, ∃ x4 : Int, v3 = .tuple #[.int .i64 x3, .int .i64 x4] ∧ (
  CallsH Try.prog n_thermal_Throttle #[.slice t.p t.n t.c, .int .u64 w] H4 (fun v4 H5 =>
  ∃ x5 : Int, ∃ x6 : Int, v4 = .tuple #[.int .i64 x5, .int .i64 x6] ∧ (
  iteB (x1 != x3) (
  R (.bool false) H5) (
  iteB (x2 != x4) (
  R (.bool false) H5) (
  iteB (x6 != (0 : Int)) (
  iteB (x6 == (6 : Int)) (
  0 ≤ (0 : Int) ∧ (0 : Int) < (t.n : Int) ∧ (unSome t.p (fun a =>
  ∃ x7 : Int, rd H5 ((a.add ((0 : Int).toNat * 3)).add 2) = some (.int .u64 x7) ∧ (
  iteB (decide (x7 > w)) (
  CallsH Try.prog n_law39_awake #[] H5 (fun v5 H6 =>
  ∃ x8 : Bool, v5 = .bool x8 ∧ (
  R (.bool x8) H6))) (
  R (.bool false) H5))))) (
  R (.bool false) H5)) (
  iteB (decide (x5 ≥ (0 : Int))) (
  iteB (decide (x5 < (t.n : Int))) (
  0 ≤ x5 ∧ x5 < (t.n : Int) ∧ (unSome t.p (fun a1 =>
  ∃ x9 : Int, rd H5 ((a1.add (x5.toNat * 3)).add 2) = some (.int .u64 x9) ∧ (
  iteB (decide (x9 ≤ w)) (
  iteB (x5 == (IntKind.i64.wrap ((t.n : Int) - (1 : Int)))) (
  CallsH Try.prog n_law39_awake #[] H5 (fun v6 H7 =>
  ∃ x10 : Bool, v6 = .bool x10 ∧ (
  R (.bool x10) H7))) (
  0 ≤ (IntKind.i64.wrap (x5 + (1 : Int))) ∧ (IntKind.i64.wrap (x5 + (1 : Int))) < (t.n : Int) ∧ (unSome t.p (fun a2 =>
  ∃ x11 : Int, rd H5 ((a2.add ((IntKind.i64.wrap (x5 + (1 : Int))).toNat * 3)).add 2) = some (.int .u64 x11) ∧ (
  iteB (decide (x11 > w)) (
  CallsH Try.prog n_law39_awake #[] H5 (fun v7 H8 =>
  ∃ x12 : Bool, v7 = .bool x12 ∧ (
  R (.bool x12) H8))) (
  R (.bool false) H5)))))) (
  R (.bool false) H5))))) (
  R (.bool false) H5)) (
  R (.bool false) H5))))))))))))))

theorem F_law39_ThermalThrottle_eq (R : Value → Heap → Prop) (raw : Sl) (granted : Int) (H : Heap) : wpF Try.prog Try.f10 [] [] [] [18] [.slice raw.p raw.n raw.c, .int .u64 granted] H R = F_law39_ThermalThrottle R raw granted H := by kernel_rfl

theorem F_law39_ThermalThrottle_ok {R : Value → Heap → Prop} (raw : Sl) (granted : Int) {H : Heap} (h : F_law39_ThermalThrottle R raw granted H) : CallsH Try.prog n_law39_ThermalThrottle #[.slice raw.p raw.n raw.c, .int .u64 granted] H R :=
  wpF_ok Try.func10 (F_law39_ThermalThrottle_eq R raw granted H) h

/-! ### 11: platformfw/platformfwlaw39.ThermalKeepsLimit -/

def F_law39_ThermalKeepsLimit_k1 (R : Value → Heap → Prop) (top : Int) (x15 : Option Addr) (I_ : Int → Heap → Prop) (M_ : Int → Heap → Nat) (i : Int) (H9 : Heap) (x18 : Sl) (H13 : Heap) : Prop :=
  CallsH Try.prog n_heat_Model_Step #[.pointer x15, .slice x18.p x18.n x18.c] H13 (fun v5 H14 =>
  ∃ x19 : Sl, ∃ x20 : Int, v5 = .tuple #[.slice x19.p x19.n x19.c, .int .i64 x20] ∧ (
  iteB (x20 != (0 : Int)) (
  R (.bool false) H14) (
  iteB ((x19.n : Int) != (1 : Int)) (
  R (.bool false) H14) (
  0 ≤ (0 : Int) ∧ (0 : Int) < (x19.n : Int) ∧ (unSome x19.p (fun a3 =>
  ∃ x21 : Int, rd H14 (a3.add ((0 : Int).toNat * 1)) = some (.int .i64 x21) ∧ (
  iteB (decide (x21 > top)) (
  R (.bool false) H14) (
  letV (IntKind.i64.wrap (i + (1 : Int))) (fun i1 : Int =>
  I_ i1 H14 ∧ M_ i1 H14 < M_ i H9)))))))))

def F_law39_ThermalKeepsLimit_r2 (R : Value → Heap → Prop) (power : Sl) (top : Int) (x11 : Int) (x15 : Option Addr) (I_ : Int → Heap → Prop) (M_ : Int → Heap → Nat) (i : Int) (H9 : Heap) : Prop :=
  iteB (decide (i < (power.n : Int))) (
  0 ≤ i ∧ i < (power.n : Int) ∧ (unSome power.p (fun a1 =>
  ∃ x17 : Int, rd H9 (a1.add (i.toNat * 1)) = some (.int .i64 x17) ∧ (
  letH (H9.push (.cells #[.int .i64 x17] t_int64 (0, 0))) (fun H10 : Heap =>
  CallsH Try.prog n_law38_Powers #[.slice (some (⟨H9.size, 0, none⟩ : Addr)) 1 1, .int .i64 (1 : Int), .int .i64 x11] H10 (fun v4 H11 =>
  ∃ x18 : Sl, v4 = .slice x18.p x18.n x18.c ∧ (
  ∃ J_ : Heap → Prop, (
  iteB ((i.tmod (3 : Int)) == (0 : Int)) (
  0 ≤ (0 : Int) ∧ (0 : Int) < (x18.n : Int) ∧ (unSome x18.p (fun a2 =>
  okRow H11 (a2.add ((0 : Int).toNat * 1)) 1 ∧ (
  letH (wrs H11 (a2.add ((0 : Int).toNat * 1)) [.int .i64 x11]) (fun H12 : Heap =>
  J_ H12))))) (
  J_ H11)) ∧ (∀ H13 : Heap, J_ H13 → F_law39_ThermalKeepsLimit_k1 R top x15 I_ M_ i H9 x18 H13)))))))) (
  CallsH Try.prog n_law39_awake #[] H9 (fun v6 H15 =>
  ∃ x22 : Bool, v6 = .bool x22 ∧ (
  R (.bool x22) H15)))

def F_law39_ThermalKeepsLimit (R : Value → Heap → Prop) (d_0 : Int) (d_1 : Int) (ambient : Int) (limit : Int) (power : Sl) (H : Heap) : Prop :=
  letH (H.push (.cells #[.int .i64 d_0, .int .i64 d_1] t_api_HeatDomain (0, 0))) (fun H1 : Heap =>
  iteB (decide ((power.n : Int) > (60 : Int))) (
  CallsH Try.prog n_law39_awake #[] H1 (fun v H2 =>
  ∃ x : Bool, v = .bool x ∧ (
  R (.bool x) H2))) (
  ∃ x1 : Int, rd H1 (⟨H.size, 0, none⟩ : Addr) = some (.int .i64 x1) ∧ ∃ x2 : Int, rd H1 ((⟨H.size, 0, none⟩ : Addr).add 1) = some (.int .i64 x2) ∧ (
  letH (H1.push (.cells #[.int .i64 x1, .int .i64 x2] t_api_HeatDomain (0, 0))) (fun H3 : Heap =>
  CallsH Try.prog n_law38_Some #[.slice (some (⟨H1.size, 0, none⟩ : Addr)) 1 1, .slice none 0 0, .int .i64 ambient] H3 (fun v1 H4 =>
  ∃ x3 : Sl, ∃ x4 : Sl, ∃ x5 : Int, v1 = .agg #[.slice x3.p x3.n x3.c, .slice x4.p x4.n x4.c, .int .i64 x5] ∧ (
  letH (H4.push (.cells #[.slice none 0 0, .slice none 0 0, .int .i64 (0 : Int)] t_law38_System (0, 0))) (fun H5 : Heap =>
  okRow H5 (⟨H4.size, 0, none⟩ : Addr) 3 ∧ (
  letH (wrs H5 (⟨H4.size, 0, none⟩ : Addr) [.slice x3.p x3.n x3.c, .slice x4.p x4.n x4.c, .int .i64 x5]) (fun H6 : Heap =>
  ∃ x6 : Int, rd H6 ((⟨H4.size, 0, none⟩ : Addr).add 2) = some (.int .i64 x6) ∧ (
  letV (IntKind.i64.wrap (x6 + (IntKind.i64.wrap ((IntKind.u64.wrap limit).tmod (50 : Int))))) (fun top : Int =>
  ∃ x7 : Sl, rd H6 (⟨H4.size, 0, none⟩ : Addr) = some (.slice x7.p x7.n x7.c) ∧ (
  0 ≤ (0 : Int) ∧ (0 : Int) < (x7.n : Int) ∧ (unSome x7.p (fun a =>
  ∃ x8 : Int, rd H6 (a.add ((0 : Int).toNat * 2)) = some (.int .i64 x8) ∧ ∃ x9 : Int, rd H6 ((a.add ((0 : Int).toNat * 2)).add 1) = some (.int .i64 x9) ∧ (
  ∃ x10 : Int, rd H6 ((⟨H4.size, 0, none⟩ : Addr).add 2) = some (.int .i64 x10) ∧ (
  CallsH Try.prog n_thermal_Sustainable #[.agg #[.int .i64 x8, .int .i64 x9], .int .i64 x10, .int .i64 top] H6 (fun v2 H7 =>
  ∃ x11 : Int, ∃ x12 : Int, v2 = .tuple #[.int .i64 x11, .int .i64 x12] ∧ (
  ∃ x13 : Sl, rd H7 (⟨H4.size, 0, none⟩ : Addr) = some (.slice x13.p x13.n x13.c) ∧ (
  ∃ x14 : Int, rd H7 ((⟨H4.size, 0, none⟩ : Addr).add 2) = some (.int .i64 x14) ∧ (
  CallsH Try.prog n_heat_New #[.slice x13.p x13.n x13.c, .slice none 0 0, .int .i64 x14] H7 (fun v3 H8 =>
  ∃ x15 : Option Addr, ∃ x16 : Int, v3 = .tuple #[.pointer x15, .int .i64 x16] ∧ (
  iteB (x12 != (0 : Int)) (
  R (.bool false) H8) (
  iteB (x16 != (0 : Int)) (
  R (.bool false) H8) (
  iteB x15.isNone (
  R (.bool false) H8) (
  iteB (decide (x11 < (0 : Int))) (
  R (.bool false) H8) (
  ∃ I_ : Int → Heap → Prop, ∃ M_ : Int → Heap → Nat, I_ (0 : Int) H8 ∧ (∀ i : Int, ∀ H9 : Heap, I_ i H9 → F_law39_ThermalKeepsLimit_r2 R power top x11 x15 I_ M_ i H9)))))))))))))))))))))))))))

theorem F_law39_ThermalKeepsLimit_eq (R : Value → Heap → Prop) (d_0 : Int) (d_1 : Int) (ambient : Int) (limit : Int) (power : Sl) (H : Heap) : wpF Try.prog Try.f11 [(15, .int .i64 0)] [(15, [], [3, 10, 11, 13, 15, 16])] [(10, [15], [3, 10, 11, 13])] [18] [.agg #[.int .i64 d_0, .int .i64 d_1], .int .i64 ambient, .int .i64 limit, .slice power.p power.n power.c] H R = F_law39_ThermalKeepsLimit R d_0 d_1 ambient limit power H := by kernel_rfl

theorem F_law39_ThermalKeepsLimit_ok {R : Value → Heap → Prop} (d_0 : Int) (d_1 : Int) (ambient : Int) (limit : Int) (power : Sl) {H : Heap} (h : F_law39_ThermalKeepsLimit R d_0 d_1 ambient limit power H) : CallsH Try.prog n_law39_ThermalKeepsLimit #[.agg #[.int .i64 d_0, .int .i64 d_1], .int .i64 ambient, .int .i64 limit, .slice power.p power.n power.c] H R :=
  wpF_ok Try.func11 (F_law39_ThermalKeepsLimit_eq R d_0 d_1 ambient limit power H) h

/-! ### 12: platformfw/platformfwlaw39.ThermalOvershootIsBounded -/

def F_law39_ThermalOvershootIsBounded_k1 (R : Value → Heap → Prop) (n : Int) (x10 : Option Addr) (x14 : Option Addr) (bound : Int) (I_ : Int → Int → Heap → Prop) (M_ : Int → Int → Heap → Nat) (level : Int) (x24 : Int) (H14 : Heap) (p1 : Int) (H15 : Heap) : Prop :=
  letH (H15.push (.cells #[.int .i64 p1] t_int64 (0, 0))) (fun H16 : Heap =>
  CallsH Try.prog n_heat_Model_Step #[.pointer x14, .slice (some (⟨H15.size, 0, none⟩ : Addr)) 1 1] H16 (fun v6 H17 =>
  ∃ x25 : Sl, ∃ x26 : Int, v6 = .tuple #[.slice x25.p x25.n x25.c, .int .i64 x26] ∧ (
  iteB (x26 != (0 : Int)) (
  R (.bool false) H17) (
  iteB ((x25.n : Int) != (1 : Int)) (
  R (.bool false) H17) (
  0 ≤ (0 : Int) ∧ (0 : Int) < (x25.n : Int) ∧ (unSome x25.p (fun a1 =>
  ∃ x27 : Int, rd H17 (a1.add ((0 : Int).toNat * 1)) = some (.int .i64 x27) ∧ (
  iteB (decide (x27 > bound)) (
  R (.bool false) H17) (
  0 ≤ (0 : Int) ∧ (0 : Int) < (x25.n : Int) ∧ (unSome x25.p (fun a2 =>
  ∃ x28 : Int, rd H17 (a2.add ((0 : Int).toNat * 1)) = some (.int .i64 x28) ∧ (
  CallsH Try.prog n_thermal_Zone_Update #[.pointer x10, .int .i64 x28] H17 (fun v7 H18 =>
  ∃ x29 : Int, ∃ x30 : Bool, ∃ x31 : Int, v7 = .tuple #[.int .i64 x29, .bool x30, .int .i64 x31] ∧ (
  iteB (x31 != (0 : Int)) (
  R (.bool false) H18) (
  iteB (decide (x29 < (0 : Int))) (
  R (.bool false) H18) (
  iteB (decide (x29 > n)) (
  R (.bool false) H18) (
  I_ x29 (IntKind.i64.wrap (x24 + (1 : Int))) H18 ∧ M_ x29 (IntKind.i64.wrap (x24 + (1 : Int))) H18 < M_ level x24 H14)))))))))))))))))

def F_law39_ThermalOvershootIsBounded_r2 (R : Value → Heap → Prop) (n : Int) (x10 : Option Addr) (x14 : Option Addr) (x19 : Int) (top : Int) (bound : Int) (x23 : Int) (I_ : Int → Int → Heap → Prop) (M_ : Int → Int → Heap → Nat) (level : Int) (x24 : Int) (H14 : Heap) : Prop :=
  iteB (decide (x24 < x23)) (
  n ≠ 0 ∧ (
  letV (IntKind.i64.wrap (top - (IntKind.i64.wrap ((IntKind.i64.wrap ((IntKind.i64.wrap (top - x19)) * level)).tdiv n)))) (fun p : Int =>
  ∃ J_ : Int → Heap → Prop, (
  iteB (level == n) (
  J_ x19 H14) (
  J_ p H14)) ∧ (∀ p1 : Int, ∀ H15 : Heap, J_ p1 H15 → F_law39_ThermalOvershootIsBounded_k1 R n x10 x14 bound I_ M_ level x24 H14 p1 H15)))) (
  CallsH Try.prog n_law39_awake #[] H14 (fun v8 H19 =>
  ∃ x32 : Bool, v8 = .bool x32 ∧ (
  R (.bool x32) H19)))

def F_law39_ThermalOvershootIsBounded (R : Value → Heap → Prop) (d_0 : Int) (d_1 : Int) (ambient : Int) (above : Int) (high : Int) (levels : Int) (hysteresis : Int) (steps : Int) (H : Heap) : Prop :=
  letH (H.push (.cells #[.int .i64 d_0, .int .i64 d_1] t_api_HeatDomain (0, 0))) (fun H1 : Heap =>
  ∃ x : Int, rd H1 (⟨H.size, 0, none⟩ : Addr) = some (.int .i64 x) ∧ ∃ x1 : Int, rd H1 ((⟨H.size, 0, none⟩ : Addr).add 1) = some (.int .i64 x1) ∧ (
  letH (H1.push (.cells #[.int .i64 x, .int .i64 x1] t_api_HeatDomain (0, 0))) (fun H2 : Heap =>
  CallsH Try.prog n_law38_Some #[.slice (some (⟨H1.size, 0, none⟩ : Addr)) 1 1, .slice none 0 0, .int .i64 ambient] H2 (fun v H3 =>
  ∃ x2 : Sl, ∃ x3 : Sl, ∃ x4 : Int, v = .agg #[.slice x2.p x2.n x2.c, .slice x3.p x3.n x3.c, .int .i64 x4] ∧ (
  letH (H3.push (.cells #[.slice none 0 0, .slice none 0 0, .int .i64 (0 : Int)] t_law38_System (0, 0))) (fun H4 : Heap =>
  okRow H4 (⟨H3.size, 0, none⟩ : Addr) 3 ∧ (
  letH (wrs H4 (⟨H3.size, 0, none⟩ : Addr) [.slice x2.p x2.n x2.c, .slice x3.p x3.n x3.c, .int .i64 x4]) (fun H5 : Heap =>
  ∃ x5 : Sl, rd H5 (⟨H3.size, 0, none⟩ : Addr) = some (.slice x5.p x5.n x5.c) ∧ (
  0 ≤ (0 : Int) ∧ (0 : Int) < (x5.n : Int) ∧ (unSome x5.p (fun a =>
  ∃ x6 : Int, rd H5 (a.add ((0 : Int).toNat * 2)) = some (.int .i64 x6) ∧ ∃ x7 : Int, rd H5 ((a.add ((0 : Int).toNat * 2)).add 1) = some (.int .i64 x7) ∧ (
  letH (H5.push (.cells #[.int .i64 (0 : Int), .int .i64 (0 : Int)] t_api_HeatDomain (0, 0))) (fun H6 : Heap =>
  okRow H6 (⟨H5.size, 0, none⟩ : Addr) 2 ∧ (
  letH (wrs H6 (⟨H5.size, 0, none⟩ : Addr) [.int .i64 x6, .int .i64 x7]) (fun H7 : Heap =>
  ∃ x8 : Int, rd H7 ((⟨H3.size, 0, none⟩ : Addr).add 2) = some (.int .i64 x8) ∧ (
  letV (IntKind.i64.wrap (x8 + (IntKind.i64.wrap (above.tmod (60 : Int))))) (fun trip : Int =>
  CallsH Try.prog n_help_Mod #[.int .i64 levels, .int .i64 (8 : Int)] H7 (fun v1 H8 =>
  ∃ x9 : Int, v1 = .int .i64 x9 ∧ (
  letV (IntKind.i64.wrap ((1 : Int) + x9)) (fun n : Int =>
  letH (H8.push (.cells #[.int .i64 (2 : Int), .int .i64 trip, .int .i64 (IntKind.i64.wrap (hysteresis.tmod (20 : Int)))] t_api_Trip (0, 0))) (fun H9 : Heap =>
  CallsH Try.prog n_thermal_NewZone #[.slice (some (⟨H8.size, 0, none⟩ : Addr)) 1 1, .int .i64 n] H9 (fun v2 H10 =>
  ∃ x10 : Option Addr, ∃ x11 : Int, v2 = .tuple #[.pointer x10, .int .i64 x11] ∧ (
  ∃ x12 : Sl, rd H10 (⟨H3.size, 0, none⟩ : Addr) = some (.slice x12.p x12.n x12.c) ∧ (
  ∃ x13 : Int, rd H10 ((⟨H3.size, 0, none⟩ : Addr).add 2) = some (.int .i64 x13) ∧ (
  CallsH Try.prog n_heat_New #[.slice x12.p x12.n x12.c, .slice none 0 0, .int .i64 x13] H10 (fun v3 H11 =>
  ∃ x14 : Option Addr, ∃ x15 : Int, v3 = .tuple #[.pointer x14, .int .i64 x15] ∧ (
  ∃ x16 : Int, rd H11 (⟨H5.size, 0, none⟩ : Addr) = some (.int .i64 x16) ∧ ∃ x17 : Int, rd H11 ((⟨H5.size, 0, none⟩ : Addr).add 1) = some (.int .i64 x17) ∧ (
  ∃ x18 : Int, rd H11 ((⟨H3.size, 0, none⟩ : Addr).add 2) = some (.int .i64 x18) ∧ (
  CallsH Try.prog n_thermal_Sustainable #[.agg #[.int .i64 x16, .int .i64 x17], .int .i64 x18, .int .i64 trip] H11 (fun v4 H12 =>
  ∃ x19 : Int, ∃ x20 : Int, v4 = .tuple #[.int .i64 x19, .int .i64 x20] ∧ (
  iteB (x11 != (0 : Int)) (
  R (.bool false) H12) (
  iteB (x15 != (0 : Int)) (
  R (.bool false) H12) (
  iteB (x20 != (0 : Int)) (
  R (.bool false) H12) (
  iteB x10.isNone (
  R (.bool false) H12) (
  iteB x14.isNone (
  R (.bool false) H12) (
  iteB (decide (x19 < (0 : Int))) (
  R (.bool false) H12) (
  letV (IntKind.i64.wrap (x19 + (IntKind.i64.wrap (high.tmod (500 : Int))))) (fun top : Int =>
  ∃ x21 : Int, rd H12 ((⟨H5.size, 0, none⟩ : Addr).add 1) = some (.int .i64 x21) ∧ (
  ∃ x22 : Int, rd H12 (⟨H5.size, 0, none⟩ : Addr) = some (.int .i64 x22) ∧ (
  x22 ≠ 0 ∧ (
  letV (IntKind.i64.wrap ((IntKind.i64.wrap (trip + (IntKind.i64.wrap ((IntKind.i64.wrap ((IntKind.i64.wrap ((IntKind.i64.wrap (n + (1 : Int))) * top)) + x21)).tdiv x22)))) + (1 : Int))) (fun bound : Int =>
  CallsH Try.prog n_help_Mod #[.int .i64 steps, .int .i64 (200 : Int)] H12 (fun v5 H13 =>
  ∃ x23 : Int, v5 = .int .i64 x23 ∧ (
  ∃ I_ : Int → Int → Heap → Prop, ∃ M_ : Int → Int → Heap → Nat, I_ (0 : Int) (0 : Int) H13 ∧ (∀ level : Int, ∀ x24 : Int, ∀ H14 : Heap, I_ level x24 H14 → F_law39_ThermalOvershootIsBounded_r2 R n x10 x14 x19 top bound x23 I_ M_ level x24 H14)))))))))))))))))))))))))))))))))))))))))))))

theorem F_law39_ThermalOvershootIsBounded_eq (R : Value → Heap → Prop) (d_0 : Int) (d_1 : Int) (ambient : Int) (above : Int) (high : Int) (levels : Int) (hysteresis : Int) (steps : Int) (H : Heap) : wpF Try.prog Try.f12 [(27, .int .i64 0), (28, .int .i64 0), (118, .int .i64 0)] [(18, [28], [18, 19, 21, 23, 25, 26, 117, 118])] [(14, [27, 118], [18, 19, 21, 23, 25, 26, 117])] [18] [.agg #[.int .i64 d_0, .int .i64 d_1], .int .i64 ambient, .int .u16 above, .int .u16 high, .int .i64 levels, .int .u8 hysteresis, .int .i64 steps] H R = F_law39_ThermalOvershootIsBounded R d_0 d_1 ambient above high levels hysteresis steps H := by kernel_rfl

theorem F_law39_ThermalOvershootIsBounded_ok {R : Value → Heap → Prop} (d_0 : Int) (d_1 : Int) (ambient : Int) (above : Int) (high : Int) (levels : Int) (hysteresis : Int) (steps : Int) {H : Heap} (h : F_law39_ThermalOvershootIsBounded R d_0 d_1 ambient above high levels hysteresis steps H) : CallsH Try.prog n_law39_ThermalOvershootIsBounded #[.agg #[.int .i64 d_0, .int .i64 d_1], .int .i64 ambient, .int .u16 above, .int .u16 high, .int .i64 levels, .int .u8 hysteresis, .int .i64 steps] H R :=
  wpF_ok Try.func12 (F_law39_ThermalOvershootIsBounded_eq R d_0 d_1 ambient above high levels hysteresis steps H) h

/-! ### 13: platformfw/platformfwlaw39.ThermalBudgetKeepsLimit -/

def F_law39_ThermalBudgetKeepsLimit_r1 (R : Value → Heap → Prop) (use : Sl) (top : Int) (x16 : Option Addr) (x18 : Sl) (I_ : Int → Heap → Prop) (M_ : Int → Heap → Nat) (i : Int) (H13 : Heap) (I_1 : Int → Int → Heap → Prop) (M_1 : Int → Int → Heap → Nat) (p : Int) (k : Int) (H14 : Heap) : Prop :=
  iteB (decide (k < (x18.n : Int))) (
  0 ≤ k ∧ k < (x18.n : Int) ∧ (unSome x18.p (fun a1 =>
  ∃ x21 : Int, rd H14 (a1.add (k.toNat * 1)) = some (.int .u64 x21) ∧ (
  iteB (decide (x21 > (4294967296 : Int))) (
  R (.bool false) H14) (
  0 ≤ i ∧ i < (use.n : Int) ∧ (unSome use.p (fun a2 =>
  ∃ x22 : Int, rd H14 (a2.add (i.toNat * 1)) = some (.int .i64 x22) ∧ (
  0 ≤ (IntKind.u64.wrap (k.tmod (8 : Int))) ∧ (
  0 ≤ k ∧ k < (x18.n : Int) ∧ (unSome x18.p (fun a3 =>
  ∃ x23 : Int, rd H14 (a3.add (k.toNat * 1)) = some (.int .u64 x23) ∧ (
  0 ≤ k ∧ k < (x18.n : Int) ∧ (unSome x18.p (fun a4 =>
  ∃ x24 : Int, rd H14 (a4.add (k.toNat * 1)) = some (.int .u64 x24) ∧ (
  (IntKind.u64.wrap (x24 + (1 : Int))) ≠ 0 ∧ (
  letV (IntKind.i64.wrap (p + (IntKind.i64.wrap ((IntKind.u64.wrap (((IntKind.u64.wrap x22).fdiv (2 ^ (min (IntKind.u64.wrap (k.tmod (8 : Int))).toNat IntKind.u64.bits))) + x23)).tmod (IntKind.u64.wrap (x24 + (1 : Int))))))) (fun p1 : Int =>
  letV (IntKind.i64.wrap (k + (1 : Int))) (fun k1 : Int =>
  I_1 p1 k1 H14 ∧ M_1 p1 k1 H14 < M_1 p k H14)))))))))))))))))) (
  letH (H14.push (.cells #[.int .i64 p] t_int64 (0, 0))) (fun H15 : Heap =>
  CallsH Try.prog n_heat_Model_Step #[.pointer x16, .slice (some (⟨H14.size, 0, none⟩ : Addr)) 1 1] H15 (fun v7 H16 =>
  ∃ x25 : Sl, ∃ x26 : Int, v7 = .tuple #[.slice x25.p x25.n x25.c, .int .i64 x26] ∧ (
  iteB (x26 != (0 : Int)) (
  R (.bool false) H16) (
  iteB ((x25.n : Int) != (1 : Int)) (
  R (.bool false) H16) (
  0 ≤ (0 : Int) ∧ (0 : Int) < (x25.n : Int) ∧ (unSome x25.p (fun a5 =>
  ∃ x27 : Int, rd H16 (a5.add ((0 : Int).toNat * 1)) = some (.int .i64 x27) ∧ (
  iteB (decide (x27 > top)) (
  R (.bool false) H16) (
  letV (IntKind.i64.wrap (i + (1 : Int))) (fun i1 : Int =>
  I_ i1 H16 ∧ M_ i1 H16 < M_ i H13)))))))))))

def F_law39_ThermalBudgetKeepsLimit_r2 (R : Value → Heap → Prop) (use : Sl) (top : Int) (x16 : Option Addr) (x18 : Sl) (I_ : Int → Heap → Prop) (M_ : Int → Heap → Nat) (i : Int) (H13 : Heap) : Prop :=
  iteB (decide (i < (use.n : Int))) (
  ∃ I_1 : Int → Int → Heap → Prop, ∃ M_1 : Int → Int → Heap → Nat, I_1 (0 : Int) (0 : Int) H13 ∧ (∀ p : Int, ∀ k : Int, ∀ H14 : Heap, I_1 p k H14 → F_law39_ThermalBudgetKeepsLimit_r1 R use top x16 x18 I_ M_ i H13 I_1 M_1 p k H14)) (
  CallsH Try.prog n_law39_awake #[] H13 (fun v8 H17 =>
  ∃ x28 : Bool, v8 = .bool x28 ∧ (
  R (.bool x28) H17)))

def F_law39_ThermalBudgetKeepsLimit_k3 (R : Value → Heap → Prop) (H : Heap) (ambient : Int) (limit : Int) (raw : Sl) (use : Sl) (x : Bool) (H2 : Heap) : Prop :=
  iteB x (
  CallsH Try.prog n_law39_awake #[] H2 (fun v H3 =>
  ∃ x1 : Bool, v = .bool x1 ∧ (
  R (.bool x1) H3))) (
  ∃ x2 : Int, rd H2 (⟨H.size, 0, none⟩ : Addr) = some (.int .i64 x2) ∧ ∃ x3 : Int, rd H2 ((⟨H.size, 0, none⟩ : Addr).add 1) = some (.int .i64 x3) ∧ (
  letH (H2.push (.cells #[.int .i64 x2, .int .i64 x3] t_api_HeatDomain (0, 0))) (fun H4 : Heap =>
  CallsH Try.prog n_law38_Some #[.slice (some (⟨H2.size, 0, none⟩ : Addr)) 1 1, .slice none 0 0, .int .i64 ambient] H4 (fun v1 H5 =>
  ∃ x4 : Sl, ∃ x5 : Sl, ∃ x6 : Int, v1 = .agg #[.slice x4.p x4.n x4.c, .slice x5.p x5.n x5.c, .int .i64 x6] ∧ (
  letH (H5.push (.cells #[.slice none 0 0, .slice none 0 0, .int .i64 (0 : Int)] t_law38_System (0, 0))) (fun H6 : Heap =>
  okRow H6 (⟨H5.size, 0, none⟩ : Addr) 3 ∧ (
  letH (wrs H6 (⟨H5.size, 0, none⟩ : Addr) [.slice x4.p x4.n x4.c, .slice x5.p x5.n x5.c, .int .i64 x6]) (fun H7 : Heap =>
  ∃ x7 : Int, rd H7 ((⟨H5.size, 0, none⟩ : Addr).add 2) = some (.int .i64 x7) ∧ (
  letV (IntKind.i64.wrap (x7 + (IntKind.i64.wrap ((IntKind.u64.wrap limit).tmod (60 : Int))))) (fun top : Int =>
  ∃ x8 : Sl, rd H7 (⟨H5.size, 0, none⟩ : Addr) = some (.slice x8.p x8.n x8.c) ∧ (
  0 ≤ (0 : Int) ∧ (0 : Int) < (x8.n : Int) ∧ (unSome x8.p (fun a =>
  ∃ x9 : Int, rd H7 (a.add ((0 : Int).toNat * 2)) = some (.int .i64 x9) ∧ ∃ x10 : Int, rd H7 ((a.add ((0 : Int).toNat * 2)).add 1) = some (.int .i64 x10) ∧ (
  ∃ x11 : Int, rd H7 ((⟨H5.size, 0, none⟩ : Addr).add 2) = some (.int .i64 x11) ∧ (
  CallsH Try.prog n_thermal_Sustainable #[.agg #[.int .i64 x9, .int .i64 x10], .int .i64 x11, .int .i64 top] H7 (fun v2 H8 =>
  ∃ x12 : Int, ∃ x13 : Int, v2 = .tuple #[.int .i64 x12, .int .i64 x13] ∧ (
  ∃ x14 : Sl, rd H8 (⟨H5.size, 0, none⟩ : Addr) = some (.slice x14.p x14.n x14.c) ∧ (
  ∃ x15 : Int, rd H8 ((⟨H5.size, 0, none⟩ : Addr).add 2) = some (.int .i64 x15) ∧ (
  CallsH Try.prog n_heat_New #[.slice x14.p x14.n x14.c, .slice none 0 0, .int .i64 x15] H8 (fun v3 H9 =>
  ∃ x16 : Option Addr, ∃ x17 : Int, v3 = .tuple #[.pointer x16, .int .i64 x17] ∧ (
  iteB (x13 != (0 : Int)) (
  R (.bool false) H9) (
  iteB (x17 != (0 : Int)) (
  R (.bool false) H9) (
  iteB x16.isNone (
  R (.bool false) H9) (
  iteB (decide (x12 < (0 : Int))) (
  R (.bool false) H9) (
  CallsH Try.prog n_law39_Actors #[.slice raw.p raw.n raw.c] H9 (fun v4 H10 =>
  ∃ l : Sl, v4 = .slice l.p l.n l.c ∧ (
  CallsH Try.prog n_thermal_Allocate #[.int .u64 (IntKind.u64.wrap x12), .slice l.p l.n l.c] H10 (fun v5 H11 =>
  ∃ x18 : Sl, ∃ x19 : Int, v5 = .tuple #[.slice x18.p x18.n x18.c, .int .i64 x19] ∧ (
  iteB (x19 != (0 : Int)) (
  iteB (x19 == (19 : Int)) (
  CallsH Try.prog n_law39_awake #[] H11 (fun v6 H12 =>
  ∃ x20 : Bool, v6 = .bool x20 ∧ (
  R (.bool x20) H12))) (
  R (.bool false) H11)) (
  iteB ((x18.n : Int) != (l.n : Int)) (
  R (.bool false) H11) (
  ∃ I_ : Int → Heap → Prop, ∃ M_ : Int → Heap → Nat, I_ (0 : Int) H11 ∧ (∀ i : Int, ∀ H13 : Heap, I_ i H13 → F_law39_ThermalBudgetKeepsLimit_r2 R use top x16 x18 I_ M_ i H13))))))))))))))))))))))))))))))))

def F_law39_ThermalBudgetKeepsLimit (R : Value → Heap → Prop) (d_0 : Int) (d_1 : Int) (ambient : Int) (limit : Int) (raw : Sl) (use : Sl) (H : Heap) : Prop :=
  letH (H.push (.cells #[.int .i64 d_0, .int .i64 d_1] t_api_HeatDomain (0, 0))) (fun H1 : Heap =>
  ∃ J_ : Bool → Heap → Prop, (
  iteB (decide ((raw.n : Int) > (40 : Int))) (
  J_ true H1) (
  J_ (decide ((use.n : Int) > (40 : Int))) H1)) ∧ (∀ x : Bool, ∀ H2 : Heap, J_ x H2 → F_law39_ThermalBudgetKeepsLimit_k3 R H ambient limit raw use x H2))

theorem F_law39_ThermalBudgetKeepsLimit_eq (R : Value → Heap → Prop) (d_0 : Int) (d_1 : Int) (ambient : Int) (limit : Int) (raw : Sl) (use : Sl) (H : Heap) : wpF Try.prog Try.f13 [(20, .int .i64 0), (21, .int .i64 0), (22, .int .i64 0), (32, .bool false)] [(2, [32], [1, 2, 3, 4, 5])] [(16, [20], [4, 12, 15, 18]), (20, [21, 22], [4, 12, 15, 18, 20])] [18] [.agg #[.int .i64 d_0, .int .i64 d_1], .int .i64 ambient, .int .i64 limit, .slice raw.p raw.n raw.c, .slice use.p use.n use.c] H R = F_law39_ThermalBudgetKeepsLimit R d_0 d_1 ambient limit raw use H := by kernel_rfl

theorem F_law39_ThermalBudgetKeepsLimit_ok {R : Value → Heap → Prop} (d_0 : Int) (d_1 : Int) (ambient : Int) (limit : Int) (raw : Sl) (use : Sl) {H : Heap} (h : F_law39_ThermalBudgetKeepsLimit R d_0 d_1 ambient limit raw use H) : CallsH Try.prog n_law39_ThermalBudgetKeepsLimit #[.agg #[.int .i64 d_0, .int .i64 d_1], .int .i64 ambient, .int .i64 limit, .slice raw.p raw.n raw.c, .slice use.p use.n use.c] H R :=
  wpF_ok Try.func13 (F_law39_ThermalBudgetKeepsLimit_eq R d_0 d_1 ambient limit raw use H) h

/-! ### 14: platformfw/platformfwlaw39.ThermalDomainsKeepLimit -/

def F_law39_ThermalDomainsKeepLimit_k1 (requests : Sl) (x4 : Sl) (H5 : Heap) (i2 : Int) (I_2 : Int → Heap → Prop) (M_2 : Int → Heap → Nat) (k : Int) (H11 : Heap) (x18 : Bool) (H13 : Heap) : Prop :=
  iteB x18 (
  0 ≤ i2 ∧ i2 < (requests.n : Int) ∧ (unSome requests.p (fun a2 =>
  ∃ x19 : Sl, rd H13 (a2.add (i2.toNat * 1)) = some (.slice x19.p x19.n x19.c) ∧ (
  0 ≤ k ∧ k < (x19.n : Int) ∧ (unSome x19.p (fun a3 =>
  ∃ x20 : Int, rd H13 (a3.add (k.toNat * 1)) = some (.int .u64 x20) ∧ (
  0 ≤ k ∧ k < ((x4.n : Int).toNat : Int) ∧ (okRow H13 ((⟨H5.size, 0, none⟩ : Addr).add (k.toNat * 3)) 1 ∧ (
  letH (wrs H13 ((⟨H5.size, 0, none⟩ : Addr).add (k.toNat * 3)) [.int .u64 x20]) (fun H14 : Heap =>
  letV (IntKind.i64.wrap (k + (1 : Int))) (fun k1 : Int =>
  I_2 k1 H14 ∧ M_2 k1 H14 < M_2 k H11))))))))))) (
  letV (IntKind.i64.wrap (k + (1 : Int))) (fun k2 : Int =>
  I_2 k2 H13 ∧ M_2 k2 H13 < M_2 k H11))

def F_law39_ThermalDomainsKeepLimit_r2 (R : Value → Heap → Prop) (x4 : Sl) (top : Int) (I_1 : Int → Heap → Prop) (M_1 : Int → Heap → Nat) (i2 : Int) (H10 : Heap) (x28 : Sl) (I_4 : Int → Heap → Prop) (M_4 : Int → Heap → Nat) (k5 : Int) (H20 : Heap) : Prop :=
  iteB (decide (k5 < (x4.n : Int))) (
  0 ≤ k5 ∧ k5 < (x28.n : Int) ∧ (unSome x28.p (fun a9 =>
  ∃ x31 : Int, rd H20 (a9.add (k5.toNat * 1)) = some (.int .i64 x31) ∧ (
  iteB (decide (x31 > top)) (
  R (.bool false) H20) (
  letV (IntKind.i64.wrap (k5 + (1 : Int))) (fun k6 : Int =>
  I_4 k6 H20 ∧ M_4 k6 H20 < M_4 k5 H20)))))) (
  letV (IntKind.i64.wrap (i2 + (1 : Int))) (fun i3 : Int =>
  I_1 i3 H20 ∧ M_1 i3 H20 < M_1 i2 H10))

def F_law39_ThermalDomainsKeepLimit_r3 (R : Value → Heap → Prop) (budgets : Sl) (x4 : Sl) (top : Int) (H5 : Heap) (x9 : Option Addr) (I_1 : Int → Heap → Prop) (M_1 : Int → Heap → Nat) (i2 : Int) (H10 : Heap) (H15 : Heap) (x22 : Sl) (I_3 : Int → Int → Heap → Prop) (M_3 : Int → Int → Heap → Nat) (sum : Int) (k3 : Int) (H17 : Heap) : Prop :=
  iteB (decide (k3 < (x4.n : Int))) (
  0 ≤ k3 ∧ k3 < (x22.n : Int) ∧ (unSome x22.p (fun a5 =>
  ∃ x24 : Int, rd H17 (a5.add (k3.toNat * 1)) = some (.int .u64 x24) ∧ (
  0 ≤ k3 ∧ k3 < ((x4.n : Int).toNat : Int) ∧ (∃ x25 : Int, rd H17 (((⟨H5.size, 0, none⟩ : Addr).add (k3.toNat * 3)).add 2) = some (.int .u64 x25) ∧ (
  iteB (decide (x24 > x25)) (
  R (.bool false) H17) (
  0 ≤ k3 ∧ k3 < (x22.n : Int) ∧ (unSome x22.p (fun a6 =>
  ∃ x26 : Int, rd H17 (a6.add (k3.toNat * 1)) = some (.int .u64 x26) ∧ (
  0 ≤ k3 ∧ k3 < ((x4.n : Int).toNat : Int) ∧ (okRow H17 ((⟨H15.size, 0, none⟩ : Addr).add (k3.toNat * 1)) 1 ∧ (
  letH (wrs H17 ((⟨H15.size, 0, none⟩ : Addr).add (k3.toNat * 1)) [.int .i64 (IntKind.i64.wrap x26)]) (fun H18 : Heap =>
  0 ≤ k3 ∧ k3 < (x22.n : Int) ∧ (unSome x22.p (fun a7 =>
  ∃ x27 : Int, rd H18 (a7.add (k3.toNat * 1)) = some (.int .u64 x27) ∧ (
  letV (IntKind.u64.wrap (sum + x27)) (fun sum1 : Int =>
  letV (IntKind.i64.wrap (k3 + (1 : Int))) (fun k4 : Int =>
  I_3 sum1 k4 H18 ∧ M_3 sum1 k4 H18 < M_3 sum k3 H17)))))))))))))))))) (
  CallsH Try.prog n_heat_Model_Step #[.pointer x9, .slice (some (⟨H15.size, 0, none⟩ : Addr)) ((x4.n : Int).toNat) ((x4.n : Int).toNat)] H17 (fun v5 H19 =>
  ∃ x28 : Sl, ∃ x29 : Int, v5 = .tuple #[.slice x28.p x28.n x28.c, .int .i64 x29] ∧ (
  iteB (x29 != (0 : Int)) (
  R (.bool false) H19) (
  iteB ((x28.n : Int) != (x4.n : Int)) (
  R (.bool false) H19) (
  0 ≤ i2 ∧ i2 < (budgets.n : Int) ∧ (unSome budgets.p (fun a8 =>
  ∃ x30 : Int, rd H19 (a8.add (i2.toNat * 1)) = some (.int .u64 x30) ∧ (
  iteB (decide (sum > (x30.tmod (600 : Int)))) (
  R (.bool false) H19) (
  ∃ I_4 : Int → Heap → Prop, ∃ M_4 : Int → Heap → Nat, I_4 (0 : Int) H19 ∧ (∀ k5 : Int, ∀ H20 : Heap, I_4 k5 H20 → F_law39_ThermalDomainsKeepLimit_r2 R x4 top I_1 M_1 i2 H10 x28 I_4 M_4 k5 H20))))))))))

def F_law39_ThermalDomainsKeepLimit_r4 (R : Value → Heap → Prop) (budgets : Sl) (requests : Sl) (x4 : Sl) (top : Int) (H5 : Heap) (x9 : Option Addr) (I_1 : Int → Heap → Prop) (M_1 : Int → Heap → Nat) (i2 : Int) (H10 : Heap) (I_2 : Int → Heap → Prop) (M_2 : Int → Heap → Nat) (k : Int) (H11 : Heap) : Prop :=
  iteB (decide (k < (x4.n : Int))) (
  0 ≤ k ∧ k < ((x4.n : Int).toNat : Int) ∧ (okRow H11 ((⟨H5.size, 0, none⟩ : Addr).add (k.toNat * 3)) 1 ∧ (
  letH (wrs H11 ((⟨H5.size, 0, none⟩ : Addr).add (k.toNat * 3)) [.int .u64 (IntKind.u64.wrap (IntKind.i64.wrap (i2 + k)))]) (fun H12 : Heap =>
  ∃ J_ : Bool → Heap → Prop, (
  iteB (decide (i2 < (requests.n : Int))) (
  0 ≤ i2 ∧ i2 < (requests.n : Int) ∧ (unSome requests.p (fun a1 =>
  ∃ x17 : Sl, rd H12 (a1.add (i2.toNat * 1)) = some (.slice x17.p x17.n x17.c) ∧ (
  J_ (decide (k < (x17.n : Int))) H12)))) (
  J_ false H12)) ∧ (∀ x18 : Bool, ∀ H13 : Heap, J_ x18 H13 → F_law39_ThermalDomainsKeepLimit_k1 requests x4 H5 i2 I_2 M_2 k H11 x18 H13))))) (
  0 ≤ i2 ∧ i2 < (budgets.n : Int) ∧ (unSome budgets.p (fun a4 =>
  ∃ x21 : Int, rd H11 (a4.add (i2.toNat * 1)) = some (.int .u64 x21) ∧ (
  CallsH Try.prog n_thermal_Allocate #[.int .u64 (x21.tmod (600 : Int)), .slice (some (⟨H5.size, 0, none⟩ : Addr)) ((x4.n : Int).toNat) ((x4.n : Int).toNat)] H11 (fun v4 H15 =>
  ∃ x22 : Sl, ∃ x23 : Int, v4 = .tuple #[.slice x22.p x22.n x22.c, .int .i64 x23] ∧ (
  iteB (x23 != (0 : Int)) (
  R (.bool false) H15) (
  iteB ((x22.n : Int) != (x4.n : Int)) (
  R (.bool false) H15) (
  0 ≤ (x4.n : Int) ∧ (x4.n : Int) ≤ (x4.n : Int) ∧ (x4.n : Int) * ((8 : Nat) : Int) ≤ 281474976710656 ∧ (
  letH (H15.push (.cells (zeroRow (.int .i64 (0 : Int)) (x4.n : Int).toNat) t_int64 (0, 0))) (fun H16 : Heap =>
  ∃ I_3 : Int → Int → Heap → Prop, ∃ M_3 : Int → Int → Heap → Nat, I_3 (0 : Int) (0 : Int) H16 ∧ (∀ sum : Int, ∀ k3 : Int, ∀ H17 : Heap, I_3 sum k3 H17 → F_law39_ThermalDomainsKeepLimit_r3 R budgets x4 top H5 x9 I_1 M_1 i2 H10 H15 x22 I_3 M_3 sum k3 H17)))))))))))

def F_law39_ThermalDomainsKeepLimit_r5 (R : Value → Heap → Prop) (budgets : Sl) (requests : Sl) (x4 : Sl) (top : Int) (H5 : Heap) (x9 : Option Addr) (I_1 : Int → Heap → Prop) (M_1 : Int → Heap → Nat) (i2 : Int) (H10 : Heap) : Prop :=
  iteB (decide (i2 < (budgets.n : Int))) (
  ∃ I_2 : Int → Heap → Prop, ∃ M_2 : Int → Heap → Nat, I_2 (0 : Int) H10 ∧ (∀ k : Int, ∀ H11 : Heap, I_2 k H11 → F_law39_ThermalDomainsKeepLimit_r4 R budgets requests x4 top H5 x9 I_1 M_1 i2 H10 I_2 M_2 k H11)) (
  CallsH Try.prog n_law39_awake #[] H10 (fun v6 H21 =>
  ∃ x32 : Bool, v6 = .bool x32 ∧ (
  R (.bool x32) H21)))

def F_law39_ThermalDomainsKeepLimit_r6 (R : Value → Heap → Prop) (budgets : Sl) (requests : Sl) (H2 : Heap) (x4 : Sl) (top : Int) (H5 : Heap) (x9 : Option Addr) (I_ : Int → Heap → Prop) (M_ : Int → Heap → Nat) (i : Int) (H7 : Heap) : Prop :=
  iteB (decide (i < (x4.n : Int))) (
  ∃ x11 : Sl, rd H7 (⟨H2.size, 0, none⟩ : Addr) = some (.slice x11.p x11.n x11.c) ∧ (
  0 ≤ i ∧ i < (x11.n : Int) ∧ (unSome x11.p (fun a =>
  ∃ x12 : Int, rd H7 (a.add (i.toNat * 2)) = some (.int .i64 x12) ∧ ∃ x13 : Int, rd H7 ((a.add (i.toNat * 2)).add 1) = some (.int .i64 x13) ∧ (
  ∃ x14 : Int, rd H7 ((⟨H2.size, 0, none⟩ : Addr).add 2) = some (.int .i64 x14) ∧ (
  CallsH Try.prog n_thermal_Sustainable #[.agg #[.int .i64 x12, .int .i64 x13], .int .i64 x14, .int .i64 top] H7 (fun v3 H8 =>
  ∃ x15 : Int, ∃ x16 : Int, v3 = .tuple #[.int .i64 x15, .int .i64 x16] ∧ (
  iteB (x16 != (0 : Int)) (
  R (.bool false) H8) (
  iteB (decide (x15 < (0 : Int))) (
  R (.bool false) H8) (
  0 ≤ i ∧ i < ((x4.n : Int).toNat : Int) ∧ (okRow H8 (((⟨H5.size, 0, none⟩ : Addr).add (i.toNat * 3)).add 2) 1 ∧ (
  letH (wrs H8 (((⟨H5.size, 0, none⟩ : Addr).add (i.toNat * 3)).add 2) [.int .u64 (IntKind.u64.wrap x15)]) (fun H9 : Heap =>
  letV (IntKind.i64.wrap (i + (1 : Int))) (fun i1 : Int =>
  I_ i1 H9 ∧ M_ i1 H9 < M_ i H7)))))))))))))) (
  ∃ I_1 : Int → Heap → Prop, ∃ M_1 : Int → Heap → Nat, I_1 (0 : Int) H7 ∧ (∀ i2 : Int, ∀ H10 : Heap, I_1 i2 H10 → F_law39_ThermalDomainsKeepLimit_r5 R budgets requests x4 top H5 x9 I_1 M_1 i2 H10))

def F_law39_ThermalDomainsKeepLimit (R : Value → Heap → Prop) (domains : Sl) (links : Sl) (ambient : Int) (limit : Int) (budgets : Sl) (requests : Sl) (H : Heap) : Prop :=
  iteB (decide ((budgets.n : Int) > (30 : Int))) (
  CallsH Try.prog n_law39_awake #[] H (fun v H1 =>
  ∃ x : Bool, v = .bool x ∧ (
  R (.bool x) H1))) (
  CallsH Try.prog n_law38_Some #[.slice domains.p domains.n domains.c, .slice links.p links.n links.c, .int .i64 ambient] H (fun v1 H2 =>
  ∃ x1 : Sl, ∃ x2 : Sl, ∃ x3 : Int, v1 = .agg #[.slice x1.p x1.n x1.c, .slice x2.p x2.n x2.c, .int .i64 x3] ∧ (
  letH (H2.push (.cells #[.slice none 0 0, .slice none 0 0, .int .i64 (0 : Int)] t_law38_System (0, 0))) (fun H3 : Heap =>
  okRow H3 (⟨H2.size, 0, none⟩ : Addr) 3 ∧ (
  letH (wrs H3 (⟨H2.size, 0, none⟩ : Addr) [.slice x1.p x1.n x1.c, .slice x2.p x2.n x2.c, .int .i64 x3]) (fun H4 : Heap =>
  ∃ x4 : Sl, rd H4 (⟨H2.size, 0, none⟩ : Addr) = some (.slice x4.p x4.n x4.c) ∧ (
  ∃ x5 : Int, rd H4 ((⟨H2.size, 0, none⟩ : Addr).add 2) = some (.int .i64 x5) ∧ (
  letV (IntKind.i64.wrap (x5 + (IntKind.i64.wrap ((IntKind.u64.wrap limit).tmod (60 : Int))))) (fun top : Int =>
  ∃ x6 : Sl, rd H4 (⟨H2.size, 0, none⟩ : Addr) = some (.slice x6.p x6.n x6.c) ∧ (
  ∃ x7 : Sl, rd H4 ((⟨H2.size, 0, none⟩ : Addr).add 1) = some (.slice x7.p x7.n x7.c) ∧ (
  ∃ x8 : Int, rd H4 ((⟨H2.size, 0, none⟩ : Addr).add 2) = some (.int .i64 x8) ∧ (
  CallsH Try.prog n_heat_New #[.slice x6.p x6.n x6.c, .slice x7.p x7.n x7.c, .int .i64 x8] H4 (fun v2 H5 =>
  ∃ x9 : Option Addr, ∃ x10 : Int, v2 = .tuple #[.pointer x9, .int .i64 x10] ∧ (
  iteB (x10 != (0 : Int)) (
  R (.bool false) H5) (
  iteB x9.isNone (
  R (.bool false) H5) (
  0 ≤ (x4.n : Int) ∧ (x4.n : Int) ≤ (x4.n : Int) ∧ (x4.n : Int) * ((24 : Nat) : Int) ≤ 281474976710656 ∧ (
  letH (H5.push (.cells (zeroRow (.agg #[.int .u64 (0 : Int), .int .u64 (0 : Int), .int .u64 (0 : Int)]) (x4.n : Int).toNat) t_api_Actor (0, 0))) (fun H6 : Heap =>
  ∃ I_ : Int → Heap → Prop, ∃ M_ : Int → Heap → Nat, I_ (0 : Int) H6 ∧ (∀ i : Int, ∀ H7 : Heap, I_ i H7 → F_law39_ThermalDomainsKeepLimit_r6 R budgets requests H2 x4 top H5 x9 I_ M_ i H7)))))))))))))))))))

theorem F_law39_ThermalDomainsKeepLimit_eq (R : Value → Heap → Prop) (domains : Sl) (links : Sl) (ambient : Int) (limit : Int) (budgets : Sl) (requests : Sl) (H : Heap) : wpF Try.prog Try.f14 [(19, .int .i64 0), (22, .int .i64 0), (23, .int .i64 0), (27, .int .u64 0), (28, .int .i64 0), (31, .int .i64 0), (128, .bool false)] [(25, [128], [4, 5, 14, 15, 16, 18, 22, 23])] [(11, [19], [4, 5, 13, 14, 15, 16, 18]), (18, [22], [4, 5, 14, 15, 16, 18]), (21, [23], [4, 5, 14, 15, 16, 18, 22]), (32, [27, 28], [4, 5, 14, 15, 16, 18, 22, 24, 26]), (42, [31], [4, 5, 14, 15, 16, 18, 22, 29])] [18] [.slice domains.p domains.n domains.c, .slice links.p links.n links.c, .int .i64 ambient, .int .i64 limit, .slice budgets.p budgets.n budgets.c, .slice requests.p requests.n requests.c] H R = F_law39_ThermalDomainsKeepLimit R domains links ambient limit budgets requests H := by kernel_rfl

theorem F_law39_ThermalDomainsKeepLimit_ok {R : Value → Heap → Prop} (domains : Sl) (links : Sl) (ambient : Int) (limit : Int) (budgets : Sl) (requests : Sl) {H : Heap} (h : F_law39_ThermalDomainsKeepLimit R domains links ambient limit budgets requests H) : CallsH Try.prog n_law39_ThermalDomainsKeepLimit #[.slice domains.p domains.n domains.c, .slice links.p links.n links.c, .int .i64 ambient, .int .i64 limit, .slice budgets.p budgets.n budgets.c, .slice requests.p requests.n requests.c] H R :=
  wpF_ok Try.func14 (F_law39_ThermalDomainsKeepLimit_eq R domains links ambient limit budgets requests H) h

/-! ### 15: platformfw/platformfwlaw39.ThermalThrottledGovernor -/

def F_law39_ThermalThrottledGovernor_r1 (R : Value → Heap → Prop) (loads : Sl) (top : Int) (x16 : Option Addr) (t : Sl) (x18 : Option Addr) (I_ : Int → Heap → Prop) (M_ : Int → Heap → Nat) (j : Int) (H15 : Heap) : Prop :=
  iteB (decide (j < (loads.n : Int))) (
  0 ≤ j ∧ j < (loads.n : Int) ∧ (unSome loads.p (fun a1 =>
  ∃ x24 : Int, rd H15 (a1.add (j.toNat * 1)) = some (.int .i64 x24) ∧ (
  CallsH Try.prog n_help_Mod #[.int .i64 x24, .int .i64 (101 : Int)] H15 (fun v9 H16 =>
  ∃ x25 : Int, v9 = .int .i64 x25 ∧ (
  CallsH Try.prog n_perf_Governor_Sample #[.pointer x18, .int .i64 x25] H16 (fun v10 H17 =>
  ∃ x26 : Int, ∃ x27 : Int, v10 = .tuple #[.int .i64 x26, .int .i64 x27] ∧ (
  iteB (x27 != (0 : Int)) (
  R (.bool false) H17) (
  iteB (decide (x26 < (0 : Int))) (
  R (.bool false) H17) (
  iteB (decide (x26 ≥ (t.n : Int))) (
  R (.bool false) H17) (
  0 ≤ x26 ∧ x26 < (t.n : Int) ∧ (unSome t.p (fun a2 =>
  ∃ x28 : Int, rd H17 ((a2.add (x26.toNat * 3)).add 2) = some (.int .u64 x28) ∧ (
  letH (H17.push (.cells #[.int .i64 (IntKind.i64.wrap x28)] t_int64 (0, 0))) (fun H18 : Heap =>
  CallsH Try.prog n_heat_Model_Step #[.pointer x16, .slice (some (⟨H17.size, 0, none⟩ : Addr)) 1 1] H18 (fun v11 H19 =>
  ∃ x29 : Sl, ∃ x30 : Int, v11 = .tuple #[.slice x29.p x29.n x29.c, .int .i64 x30] ∧ (
  iteB (x30 != (0 : Int)) (
  R (.bool false) H19) (
  iteB ((x29.n : Int) != (1 : Int)) (
  R (.bool false) H19) (
  0 ≤ (0 : Int) ∧ (0 : Int) < (x29.n : Int) ∧ (unSome x29.p (fun a3 =>
  ∃ x31 : Int, rd H19 (a3.add ((0 : Int).toNat * 1)) = some (.int .i64 x31) ∧ (
  iteB (decide (x31 > top)) (
  R (.bool false) H19) (
  letV (IntKind.i64.wrap (j + (1 : Int))) (fun j1 : Int =>
  I_ j1 H19 ∧ M_ j1 H19 < M_ j H15)))))))))))))))))))))))) (
  CallsH Try.prog n_law39_awake #[] H15 (fun v12 H20 =>
  ∃ x32 : Bool, v12 = .bool x32 ∧ (
  R (.bool x32) H20)))

def F_law39_ThermalThrottledGovernor_k2 (R : Value → Heap → Prop) (H : Heap) (ambient : Int) (limit : Int) (raw : Sl) (loads : Sl) (x : Bool) (H2 : Heap) : Prop :=
  iteB x (
  CallsH Try.prog n_law39_awake #[] H2 (fun v H3 =>
  ∃ x1 : Bool, v = .bool x1 ∧ (
  R (.bool x1) H3))) (
  ∃ x2 : Int, rd H2 (⟨H.size, 0, none⟩ : Addr) = some (.int .i64 x2) ∧ ∃ x3 : Int, rd H2 ((⟨H.size, 0, none⟩ : Addr).add 1) = some (.int .i64 x3) ∧ (
  letH (H2.push (.cells #[.int .i64 x2, .int .i64 x3] t_api_HeatDomain (0, 0))) (fun H4 : Heap =>
  CallsH Try.prog n_law38_Some #[.slice (some (⟨H2.size, 0, none⟩ : Addr)) 1 1, .slice none 0 0, .int .i64 ambient] H4 (fun v1 H5 =>
  ∃ x4 : Sl, ∃ x5 : Sl, ∃ x6 : Int, v1 = .agg #[.slice x4.p x4.n x4.c, .slice x5.p x5.n x5.c, .int .i64 x6] ∧ (
  letH (H5.push (.cells #[.slice none 0 0, .slice none 0 0, .int .i64 (0 : Int)] t_law38_System (0, 0))) (fun H6 : Heap =>
  okRow H6 (⟨H5.size, 0, none⟩ : Addr) 3 ∧ (
  letH (wrs H6 (⟨H5.size, 0, none⟩ : Addr) [.slice x4.p x4.n x4.c, .slice x5.p x5.n x5.c, .int .i64 x6]) (fun H7 : Heap =>
  ∃ x7 : Int, rd H7 ((⟨H5.size, 0, none⟩ : Addr).add 2) = some (.int .i64 x7) ∧ (
  letV (IntKind.i64.wrap (x7 + (IntKind.i64.wrap ((IntKind.u64.wrap limit).tmod (60 : Int))))) (fun top : Int =>
  ∃ x8 : Sl, rd H7 (⟨H5.size, 0, none⟩ : Addr) = some (.slice x8.p x8.n x8.c) ∧ (
  0 ≤ (0 : Int) ∧ (0 : Int) < (x8.n : Int) ∧ (unSome x8.p (fun a =>
  ∃ x9 : Int, rd H7 (a.add ((0 : Int).toNat * 2)) = some (.int .i64 x9) ∧ ∃ x10 : Int, rd H7 ((a.add ((0 : Int).toNat * 2)).add 1) = some (.int .i64 x10) ∧ (
  ∃ x11 : Int, rd H7 ((⟨H5.size, 0, none⟩ : Addr).add 2) = some (.int .i64 x11) ∧ (
  CallsH Try.prog n_thermal_Sustainable #[.agg #[.int .i64 x9, .int .i64 x10], .int .i64 x11, .int .i64 top] H7 (fun v2 H8 =>
  ∃ x12 : Int, ∃ x13 : Int, v2 = .tuple #[.int .i64 x12, .int .i64 x13] ∧ (
  ∃ x14 : Sl, rd H8 (⟨H5.size, 0, none⟩ : Addr) = some (.slice x14.p x14.n x14.c) ∧ (
  ∃ x15 : Int, rd H8 ((⟨H5.size, 0, none⟩ : Addr).add 2) = some (.int .i64 x15) ∧ (
  CallsH Try.prog n_heat_New #[.slice x14.p x14.n x14.c, .slice none 0 0, .int .i64 x15] H8 (fun v3 H9 =>
  ∃ x16 : Option Addr, ∃ x17 : Int, v3 = .tuple #[.pointer x16, .int .i64 x17] ∧ (
  CallsH Try.prog n_law36_Table #[.slice raw.p raw.n raw.c] H9 (fun v4 H10 =>
  ∃ t : Sl, v4 = .slice t.p t.n t.c ∧ (
  CallsH Try.prog n_perf_New #[.slice t.p t.n t.c, .agg #[.int .i64 (80 : Int), .int .i64 (30 : Int), .int .i64 (2 : Int)]] H10 (fun v5 H11 =>
  ∃ x18 : Option Addr, ∃ x19 : Int, v5 = .tuple #[.pointer x18, .int .i64 x19] ∧ (
  iteB (x13 != (0 : Int)) (
  R (.bool false) H11) (
  iteB (x17 != (0 : Int)) (
  R (.bool false) H11) (
  iteB (x19 != (0 : Int)) (
  R (.bool false) H11) (
  iteB x16.isNone (
  R (.bool false) H11) (
  iteB x18.isNone (
  R (.bool false) H11) (
  iteB (decide (x12 < (0 : Int))) (
  R (.bool false) H11) (
  CallsH Try.prog n_thermal_Throttle #[.slice t.p t.n t.c, .int .u64 (IntKind.u64.wrap x12)] H11 (fun v6 H12 =>
  ∃ x20 : Int, ∃ x21 : Int, v6 = .tuple #[.int .i64 x20, .int .i64 x21] ∧ (
  iteB (x21 != (0 : Int)) (
  iteB (x21 == (6 : Int)) (
  CallsH Try.prog n_law39_awake #[] H12 (fun v7 H13 =>
  ∃ x22 : Bool, v7 = .bool x22 ∧ (
  R (.bool x22) H13))) (
  R (.bool false) H12)) (
  CallsH Try.prog n_perf_Governor_Limit #[.pointer x18, .int .i64 (0 : Int), .int .i64 x20] H12 (fun v8 H14 =>
  ∃ x23 : Int, v8 = .int .i64 x23 ∧ (
  iteB (x23 != (0 : Int)) (
  R (.bool false) H14) (
  ∃ I_ : Int → Heap → Prop, ∃ M_ : Int → Heap → Nat, I_ (0 : Int) H14 ∧ (∀ j : Int, ∀ H15 : Heap, I_ j H15 → F_law39_ThermalThrottledGovernor_r1 R loads top x16 t x18 I_ M_ j H15))))))))))))))))))))))))))))))))))))))

def F_law39_ThermalThrottledGovernor (R : Value → Heap → Prop) (d_0 : Int) (d_1 : Int) (ambient : Int) (limit : Int) (raw : Sl) (loads : Sl) (H : Heap) : Prop :=
  letH (H.push (.cells #[.int .i64 d_0, .int .i64 d_1] t_api_HeatDomain (0, 0))) (fun H1 : Heap =>
  ∃ J_ : Bool → Heap → Prop, (
  iteB (decide ((raw.n : Int) > (20 : Int))) (
  J_ true H1) (
  J_ (decide ((loads.n : Int) > (40 : Int))) H1)) ∧ (∀ x : Bool, ∀ H2 : Heap, J_ x H2 → F_law39_ThermalThrottledGovernor_k2 R H ambient limit raw loads x H2))

theorem F_law39_ThermalThrottledGovernor_eq (R : Value → Heap → Prop) (d_0 : Int) (d_1 : Int) (ambient : Int) (limit : Int) (raw : Sl) (loads : Sl) (H : Heap) : wpF Try.prog Try.f15 [(22, .int .i64 0), (34, .bool false)] [(2, [34], [1, 2, 3, 4, 5])] [(17, [22], [4, 12, 15, 17, 18])] [18] [.agg #[.int .i64 d_0, .int .i64 d_1], .int .i64 ambient, .int .i64 limit, .slice raw.p raw.n raw.c, .slice loads.p loads.n loads.c] H R = F_law39_ThermalThrottledGovernor R d_0 d_1 ambient limit raw loads H := by kernel_rfl

theorem F_law39_ThermalThrottledGovernor_ok {R : Value → Heap → Prop} (d_0 : Int) (d_1 : Int) (ambient : Int) (limit : Int) (raw : Sl) (loads : Sl) {H : Heap} (h : F_law39_ThermalThrottledGovernor R d_0 d_1 ambient limit raw loads H) : CallsH Try.prog n_law39_ThermalThrottledGovernor #[.agg #[.int .i64 d_0, .int .i64 d_1], .int .i64 ambient, .int .i64 limit, .slice raw.p raw.n raw.c, .slice loads.p loads.n loads.c] H R :=
  wpF_ok Try.func15 (F_law39_ThermalThrottledGovernor_eq R d_0 d_1 ambient limit raw loads H) h

/-! ### 16: platformfw/platformfwlaw39.awake -/

def F_law39_awake (R : Value → Heap → Prop)  (H : Heap) : Prop :=
  letH (H.push (.cells #[.int .u64 (9 : Int), .int .u64 (0 : Int), .int .u64 (9 : Int), .int .u64 (1 : Int), .int .u64 (0 : Int), .int .u64 (9 : Int), .int .u64 (9 : Int), .int .u64 (2 : Int), .int .u64 (9 : Int)] t_api_Actor (0, 0))) (fun H1 : Heap =>
  CallsH Try.prog n_thermal_Allocate #[.int .u64 (10 : Int), .slice (some (⟨H.size, 0, none⟩ : Addr)) 3 3] H1 (fun v H2 =>
  ∃ x : Sl, ∃ x1 : Int, v = .tuple #[.slice x.p x.n x.c, .int .i64 x1] ∧ (
  letH (H2.push (.cells #[.int .i64 (2 : Int), .int .i64 (50 : Int), .int .i64 (5 : Int)] t_api_Trip (0, 0))) (fun H3 : Heap =>
  CallsH Try.prog n_thermal_NewZone #[.slice (some (⟨H2.size, 0, none⟩ : Addr)) 1 1, .int .i64 (3 : Int)] H3 (fun v1 H4 =>
  ∃ x2 : Option Addr, ∃ x3 : Int, v1 = .tuple #[.pointer x2, .int .i64 x3] ∧ (
  iteB (x1 != (0 : Int)) (
  R (.bool false) H4) (
  iteB (x3 != (0 : Int)) (
  R (.bool false) H4) (
  iteB x2.isNone (
  R (.bool false) H4) (
  letH (H4.push (.cells #[.int .u64 (5 : Int), .int .u64 (1 : Int), .int .u64 (4 : Int)] t_uint64 (0, 0))) (fun H5 : Heap =>
  CallsH Try.prog n_help_Equal_uint64 #[.slice x.p x.n x.c, .slice (some (⟨H4.size, 0, none⟩ : Addr)) 3 3] H5 (fun v2 H6 =>
  ∃ x4 : Bool, v2 = .bool x4 ∧ (
  iteB (!x4) (
  R (.bool false) H6) (
  CallsH Try.prog n_thermal_Zone_Update #[.pointer x2, .int .i64 (50 : Int)] H6 (fun v3 H7 =>
  ∃ x5 : Int, ∃ x6 : Bool, ∃ x7 : Int, v3 = .tuple #[.int .i64 x5, .bool x6, .int .i64 x7] ∧ (
  CallsH Try.prog n_thermal_Zone_Update #[.pointer x2, .int .i64 (45 : Int)] H7 (fun v4 H8 =>
  ∃ x8 : Int, ∃ x9 : Bool, ∃ x10 : Int, v4 = .tuple #[.int .i64 x8, .bool x9, .int .i64 x10] ∧ (
  CallsH Try.prog n_thermal_Zone_Update #[.pointer x2, .int .i64 (44 : Int)] H8 (fun v5 H9 =>
  ∃ x11 : Int, ∃ x12 : Bool, ∃ x13 : Int, v5 = .tuple #[.int .i64 x11, .bool x12, .int .i64 x13] ∧ (
  iteB (x7 == (0 : Int)) (
  iteB (x10 == (0 : Int)) (
  iteB (x13 == (0 : Int)) (
  iteB (x5 == (1 : Int)) (
  iteB (x8 == (2 : Int)) (
  iteB (x11 == (1 : Int)) (
  letH (H9.push (.cells #[.int .i64 (0 : Int), .int .i64 (0 : Int), .int .i64 (0 : Int)] t_api_Trip (0, 0))) (fun H10 : Heap =>
  CallsH Try.prog n_thermal_CheckTrips #[.slice (some (⟨H9.size, 0, none⟩ : Addr)) 1 1] H10 (fun v6 H11 =>
  ∃ x14 : Int, v6 = .int .i64 x14 ∧ (
  R (.bool (x14 == (1 : Int))) H11)))) (
  R (.bool false) H9)) (
  R (.bool false) H9)) (
  R (.bool false) H9)) (
  R (.bool false) H9)) (
  R (.bool false) H9)) (
  R (.bool false) H9))))))))))))))))))))

theorem F_law39_awake_eq (R : Value → Heap → Prop)  (H : Heap) : wpF Try.prog Try.f16 [] [] [] [18] [] H R = F_law39_awake R  H := by kernel_rfl

theorem F_law39_awake_ok {R : Value → Heap → Prop}  {H : Heap} (h : F_law39_awake R  H) : CallsH Try.prog n_law39_awake #[] H R :=
  wpF_ok Try.func16 (F_law39_awake_eq R  H) h

/-! ### 17: platformfw/platformfwlaw39.Trips -/

def F_law39_Trips_r1 (R : Value → Heap → Prop) (raw : Sl) (I_ : Sl → Int → Heap → Prop) (M_ : Sl → Int → Heap → Nat) (out : Sl) (i : Int) (H1 : Heap) : Prop :=
  iteB (decide (i < (raw.n : Int))) (
  iteB (decide (i < (6 : Int))) (
  0 ≤ i ∧ i < (raw.n : Int) ∧ (unSome raw.p (fun a =>
  ∃ x : Int, rd H1 (a.add (i.toNat * 3)) = some (.int .i64 x) ∧ (
  CallsP Try.prog n_help_Mod #[.int .i64 x, .int .i64 (3 : Int)] (fun v =>
  ∃ x1 : Int, v = .int .i64 x1 ∧ (
  0 ≤ i ∧ i < (raw.n : Int) ∧ (unSome raw.p (fun a1 =>
  ∃ x2 : Int, rd H1 ((a1.add (i.toNat * 3)).add 1) = some (.int .i64 x2) ∧ (
  0 ≤ i ∧ i < (raw.n : Int) ∧ (unSome raw.p (fun a2 =>
  ∃ x3 : Int, rd H1 ((a2.add (i.toNat * 3)).add 2) = some (.int .i64 x3) ∧ (
  letH (H1.push (.cells #[.int .i64 (IntKind.i64.wrap ((1 : Int) + x1)), .int .i64 (IntKind.i64.wrap ((IntKind.i64.wrap ((IntKind.u64.wrap x2).tmod (101 : Int))) - (50 : Int))), .int .i64 (IntKind.i64.wrap ((IntKind.u64.wrap x3).tmod (20 : Int)))] t_api_Trip (0, 0))) (fun H2 : Heap =>
  runH Try.prog (Builtin.append_ #[t_sl_api_Trip, t_sl_api_Trip] t_sl_api_Trip #[.slice out.p out.n out.c, .slice (some (⟨H1.size, 0, none⟩ : Addr)) 1 1]) H2 (fun v1 H3 =>
  ∃ out1 : Sl, v1 = .slice out1.p out1.n out1.c ∧ (
  letV (IntKind.i64.wrap (i + (1 : Int))) (fun i1 : Int =>
  I_ out1 i1 H3 ∧ M_ out1 i1 H3 < M_ out i H1)))))))))))))))) (
  R (.slice out.p out.n out.c) H1)) (
  R (.slice out.p out.n out.c) H1)

def F_law39_Trips (R : Value → Heap → Prop) (raw : Sl) (H : Heap) : Prop :=
  ∃ I_ : Sl → Int → Heap → Prop, ∃ M_ : Sl → Int → Heap → Nat, I_ (Sl.mk none 0 0) (0 : Int) H ∧ (∀ out : Sl, ∀ i : Int, ∀ H1 : Heap, I_ out i H1 → F_law39_Trips_r1 R raw I_ M_ out i H1)

theorem F_law39_Trips_eq (R : Value → Heap → Prop) (raw : Sl) (H : Heap) : wpF Try.prog Try.f17 [(3, .slice none 0 0), (4, .int .i64 0)] [] [(3, [3, 4], [0])] [18] [.slice raw.p raw.n raw.c] H R = F_law39_Trips R raw H := by kernel_rfl

theorem F_law39_Trips_ok {R : Value → Heap → Prop} (raw : Sl) {H : Heap} (h : F_law39_Trips R raw H) : CallsH Try.prog n_law39_Trips #[.slice raw.p raw.n raw.c] H R :=
  wpF_ok Try.func17 (F_law39_Trips_eq R raw H) h

/-! ### 18: platformfw/platformfwhelp.Mod -/

def F_help_Mod (R : Value → Heap → Prop) (v : Int) (n : Int) (H : Heap) : Prop :=
  (IntKind.u64.wrap n) ≠ 0 ∧ (
  letV (IntKind.i64.wrap ((IntKind.u64.wrap v).tmod (IntKind.u64.wrap n))) (fun x : Int =>
  R (.int .i64 x) H))

theorem F_help_Mod_eq (R : Value → Heap → Prop) (v : Int) (n : Int) (H : Heap) : wpF Try.prog Try.f18 [] [] [] [18] [.int .i64 v, .int .i64 n] H R = F_help_Mod R v n H := by kernel_rfl

theorem F_help_Mod_ok {R : Value → Heap → Prop} (v : Int) (n : Int) {H : Heap} (h : F_help_Mod R v n H) : CallsH Try.prog n_help_Mod #[.int .i64 v, .int .i64 n] H R :=
  wpF_ok Try.func18 (F_help_Mod_eq R v n H) h

/-! ### 19: platformfw/thermal.NewZone -/

def F_thermal_NewZone (R : Value → Heap → Prop) (trips : Sl) (levels : Int) (H : Heap) : Prop :=
  CallsH Try.prog n_thermal_CheckTrips #[.slice trips.p trips.n trips.c] H (fun v H1 =>
  ∃ err : Int, v = .int .i64 err ∧ (
  iteB (err != (0 : Int)) (
  R (.tuple #[.pointer none, .int .i64 err]) H1) (
  iteB (decide (levels < (0 : Int))) (
  R (.tuple #[.pointer none, .int .i64 (1 : Int)]) H1) (
  iteB (decide (levels > (64 : Int))) (
  R (.tuple #[.pointer none, .int .i64 (1 : Int)]) H1) (
  (
  CallsH Try.prog n_slices_Clone_sl_api_Trip_api_Trip #[.slice trips.p trips.n trips.c] H1 (fun v1 H2 =>
  ∃ x : Sl, v1 = .slice x.p x.n x.c ∧ (
  0 ≤ (trips.n : Int) ∧ (trips.n : Int) ≤ (trips.n : Int) ∧ (trips.n : Int) * ((1 : Nat) : Int) ≤ 281474976710656 ∧ (
  letH (H2.push (.cells (zeroRow (.bool false) (trips.n : Int).toNat) t_bool (0, 0))) (fun H3 : Heap =>
  letH (H3.push (.cells #[.slice x.p x.n x.c, .slice (some (⟨H2.size, 0, none⟩ : Addr)) ((trips.n : Int).toNat) ((trips.n : Int).toNat), .int .i64 levels, .int .i64 (0 : Int)] t_thermal_Zone (0, 0))) (fun H4 : Heap =>
  R (.tuple #[.pointer (some (⟨H3.size, 0, none⟩ : Addr)), .int .i64 (0 : Int)]) H4)))))) ∧ (
  0 ≤ (trips.n : Int) ∧ (trips.n : Int) ≤ (trips.n : Int) ∧ (trips.n : Int) * ((1 : Nat) : Int) ≤ 281474976710656 ∧ (
  letH (H1.push (.cells (zeroRow (.bool false) (trips.n : Int).toNat) t_bool (0, 0))) (fun H5 : Heap =>
  CallsH Try.prog n_slices_Clone_sl_api_Trip_api_Trip #[.slice trips.p trips.n trips.c] H5 (fun v2 H6 =>
  ∃ x1 : Sl, v2 = .slice x1.p x1.n x1.c ∧ (
  letH (H6.push (.cells #[.slice x1.p x1.n x1.c, .slice (some (⟨H1.size, 0, none⟩ : Addr)) ((trips.n : Int).toNat) ((trips.n : Int).toNat), .int .i64 levels, .int .i64 (0 : Int)] t_thermal_Zone (0, 0))) (fun H7 : Heap =>
  R (.tuple #[.pointer (some (⟨H6.size, 0, none⟩ : Addr)), .int .i64 (0 : Int)]) H7)))))))))))

theorem F_thermal_NewZone_eq (R : Value → Heap → Prop) (trips : Sl) (levels : Int) (H : Heap) : wpF Try.prog Try.f19 [] [] [] [18] [.slice trips.p trips.n trips.c, .int .i64 levels] H R = F_thermal_NewZone R trips levels H := by kernel_rfl

theorem F_thermal_NewZone_ok {R : Value → Heap → Prop} (trips : Sl) (levels : Int) {H : Heap} (h : F_thermal_NewZone R trips levels H) : CallsH Try.prog n_thermal_NewZone #[.slice trips.p trips.n trips.c, .int .i64 levels] H R :=
  wpF_ok Try.func19 (F_thermal_NewZone_eq R trips levels H) h

/-! ### 20: platformfw/platformfwref39.NewZone -/

def F_ref39_NewZone (R : Value → Heap → Prop) (trips : Sl) (levels : Int) (H : Heap) : Prop :=
  CallsH Try.prog n_ref39_CheckTrips #[.slice trips.p trips.n trips.c] H (fun v H1 =>
  ∃ e : Int, v = .int .i64 e ∧ (
  iteB (e != (0 : Int)) (
  R (.tuple #[.pointer none, .int .i64 e]) H1) (
  iteB (decide (levels < (0 : Int))) (
  R (.tuple #[.pointer none, .int .i64 (1 : Int)]) H1) (
  iteB (decide (levels > (64 : Int))) (
  R (.tuple #[.pointer none, .int .i64 (1 : Int)]) H1) (
  0 ≤ (trips.n : Int) ∧ (trips.n : Int) ≤ (trips.n : Int) ∧ (trips.n : Int) * ((1 : Nat) : Int) ≤ 281474976710656 ∧ (
  letH (H1.push (.cells (zeroRow (.bool false) (trips.n : Int).toNat) t_bool (0, 0))) (fun H2 : Heap =>
  letH (H2.push (.cells #[.slice trips.p trips.n trips.c, .slice (some (⟨H1.size, 0, none⟩ : Addr)) ((trips.n : Int).toNat) ((trips.n : Int).toNat), .int .i64 levels, .int .i64 (0 : Int)] t_ref39_Zone (0, 0))) (fun H3 : Heap =>
  R (.tuple #[.pointer (some (⟨H2.size, 0, none⟩ : Addr)), .int .i64 (0 : Int)]) H3))))))))

theorem F_ref39_NewZone_eq (R : Value → Heap → Prop) (trips : Sl) (levels : Int) (H : Heap) : wpF Try.prog Try.f20 [] [] [] [18] [.slice trips.p trips.n trips.c, .int .i64 levels] H R = F_ref39_NewZone R trips levels H := by kernel_rfl

theorem F_ref39_NewZone_ok {R : Value → Heap → Prop} (trips : Sl) (levels : Int) {H : Heap} (h : F_ref39_NewZone R trips levels H) : CallsH Try.prog n_ref39_NewZone #[.slice trips.p trips.n trips.c, .int .i64 levels] H R :=
  wpF_ok Try.func20 (F_ref39_NewZone_eq R trips levels H) h

/-! ### 21: platformfw/thermal.CheckTrips -/

def F_thermal_CheckTrips_k1 (R : Value → Heap → Prop) (I_ : Int → Heap → Prop) (M_ : Int → Heap → Nat) (x : Int) (H1 : Heap) (H4 : Heap) : Prop :=
  ∃ x7 : Int, rd H4 ((⟨H1.size, 0, none⟩ : Addr).add 1) = some (.int .i64 x7) ∧ (
  iteB (decide (x7 < (-67108864 : Int))) (
  R (.int .i64 (1 : Int)) H4) (
  ∃ x8 : Int, rd H4 ((⟨H1.size, 0, none⟩ : Addr).add 1) = some (.int .i64 x8) ∧ (
  iteB (decide (x8 > (67108864 : Int))) (
  R (.int .i64 (1 : Int)) H4) (
  ∃ x9 : Int, rd H4 ((⟨H1.size, 0, none⟩ : Addr).add 2) = some (.int .i64 x9) ∧ (
  iteB (decide (x9 < (0 : Int))) (
  R (.int .i64 (1 : Int)) H4) (
  ∃ x10 : Int, rd H4 ((⟨H1.size, 0, none⟩ : Addr).add 2) = some (.int .i64 x10) ∧ (
  iteB (decide (x10 > (16777216 : Int))) (
  R (.int .i64 (1 : Int)) H4) (
  I_ (IntKind.i64.wrap (x + (1 : Int))) H4 ∧ M_ (IntKind.i64.wrap (x + (1 : Int))) H4 < M_ x H1))))))))

def F_thermal_CheckTrips_r2 (R : Value → Heap → Prop) (trips : Sl) (I_ : Int → Heap → Prop) (M_ : Int → Heap → Nat) (x : Int) (H1 : Heap) : Prop :=
  iteB (decide (x < (trips.n : Int))) (
  0 ≤ x ∧ x < (trips.n : Int) ∧ (unSome trips.p (fun a =>
  ∃ x1 : Int, rd H1 (a.add (x.toNat * 3)) = some (.int .i64 x1) ∧ ∃ x2 : Int, rd H1 ((a.add (x.toNat * 3)).add 1) = some (.int .i64 x2) ∧ ∃ x3 : Int, rd H1 ((a.add (x.toNat * 3)).add 2) = some (.int .i64 x3) ∧ (
  letH (H1.push (.cells #[.int .i64 (0 : Int), .int .i64 (0 : Int), .int .i64 (0 : Int)] t_api_Trip (0, 0))) (fun H2 : Heap =>
  okRow H2 (⟨H1.size, 0, none⟩ : Addr) 3 ∧ (
  letH (wrs H2 (⟨H1.size, 0, none⟩ : Addr) [.int .i64 x1, .int .i64 x2, .int .i64 x3]) (fun H3 : Heap =>
  ∃ J_ : Heap → Prop, (
  ∃ x4 : Int, rd H3 (⟨H1.size, 0, none⟩ : Addr) = some (.int .i64 x4) ∧ (
  iteB (x4 != (1 : Int)) (
  ∃ x5 : Int, rd H3 (⟨H1.size, 0, none⟩ : Addr) = some (.int .i64 x5) ∧ (
  iteB (x5 != (2 : Int)) (
  ∃ x6 : Int, rd H3 (⟨H1.size, 0, none⟩ : Addr) = some (.int .i64 x6) ∧ (
  iteB (x6 != (3 : Int)) (
  R (.int .i64 (1 : Int)) H3) (
  J_ H3))) (
  J_ H3))) (
  J_ H3))) ∧ (∀ H4 : Heap, J_ H4 → F_thermal_CheckTrips_k1 R I_ M_ x H1 H4)))))))) (
  R (.int .i64 (0 : Int)) H1)

def F_thermal_CheckTrips (R : Value → Heap → Prop) (trips : Sl) (H : Heap) : Prop :=
  iteB (decide ((trips.n : Int) > (12 : Int))) (
  R (.int .i64 (1 : Int)) H) (
  ∃ I_ : Int → Heap → Prop, ∃ M_ : Int → Heap → Nat, I_ (0 : Int) H ∧ (∀ x : Int, ∀ H1 : Heap, I_ x H1 → F_thermal_CheckTrips_r2 R trips I_ M_ x H1))

theorem F_thermal_CheckTrips_eq (R : Value → Heap → Prop) (trips : Sl) (H : Heap) : wpF Try.prog Try.f21 [(10, .int .i64 0)] [(8, [], [4, 8, 9, 10])] [(4, [10], [8, 9])] [18] [.slice trips.p trips.n trips.c] H R = F_thermal_CheckTrips R trips H := by kernel_rfl

theorem F_thermal_CheckTrips_ok {R : Value → Heap → Prop} (trips : Sl) {H : Heap} (h : F_thermal_CheckTrips R trips H) : CallsH Try.prog n_thermal_CheckTrips #[.slice trips.p trips.n trips.c] H R :=
  wpF_ok Try.func21 (F_thermal_CheckTrips_eq R trips H) h

/-! ### 22: platformfw/platformfwref39.CheckTrips -/

def F_ref39_CheckTrips_r1 (R : Value → Heap → Prop) (trips : Sl) (I_ : Int → Heap → Prop) (M_ : Int → Heap → Nat) (i : Int) (H1 : Heap) : Prop :=
  iteB (decide (i < (trips.n : Int))) (
  0 ≤ i ∧ i < (trips.n : Int) ∧ (unSome trips.p (fun a =>
  ∃ x : Int, rd H1 (a.add (i.toNat * 3)) = some (.int .i64 x) ∧ ∃ x1 : Int, rd H1 ((a.add (i.toNat * 3)).add 1) = some (.int .i64 x1) ∧ ∃ x2 : Int, rd H1 ((a.add (i.toNat * 3)).add 2) = some (.int .i64 x2) ∧ (
  letH (H1.push (.cells #[.int .i64 (0 : Int), .int .i64 (0 : Int), .int .i64 (0 : Int)] t_api_Trip (0, 0))) (fun H2 : Heap =>
  okRow H2 (⟨H1.size, 0, none⟩ : Addr) 3 ∧ (
  letH (wrs H2 (⟨H1.size, 0, none⟩ : Addr) [.int .i64 x, .int .i64 x1, .int .i64 x2]) (fun H3 : Heap =>
  ∃ x3 : Int, rd H3 (⟨H1.size, 0, none⟩ : Addr) = some (.int .i64 x3) ∧ (
  iteB (decide (x3 < (1 : Int))) (
  R (.int .i64 (1 : Int)) H3) (
  ∃ x4 : Int, rd H3 (⟨H1.size, 0, none⟩ : Addr) = some (.int .i64 x4) ∧ (
  iteB (decide (x4 > (3 : Int))) (
  R (.int .i64 (1 : Int)) H3) (
  ∃ x5 : Int, rd H3 ((⟨H1.size, 0, none⟩ : Addr).add 1) = some (.int .i64 x5) ∧ (
  iteB (decide (x5 < (-67108864 : Int))) (
  R (.int .i64 (1 : Int)) H3) (
  ∃ x6 : Int, rd H3 ((⟨H1.size, 0, none⟩ : Addr).add 1) = some (.int .i64 x6) ∧ (
  iteB (decide (x6 > (67108864 : Int))) (
  R (.int .i64 (1 : Int)) H3) (
  ∃ x7 : Int, rd H3 ((⟨H1.size, 0, none⟩ : Addr).add 2) = some (.int .i64 x7) ∧ (
  iteB (decide (x7 < (0 : Int))) (
  R (.int .i64 (1 : Int)) H3) (
  ∃ x8 : Int, rd H3 ((⟨H1.size, 0, none⟩ : Addr).add 2) = some (.int .i64 x8) ∧ (
  iteB (decide (x8 > (16777216 : Int))) (
  R (.int .i64 (1 : Int)) H3) (
  letV (IntKind.i64.wrap (i + (1 : Int))) (fun i1 : Int =>
  I_ i1 H3 ∧ M_ i1 H3 < M_ i H1)))))))))))))))))))) (
  R (.int .i64 (0 : Int)) H1)

def F_ref39_CheckTrips (R : Value → Heap → Prop) (trips : Sl) (H : Heap) : Prop :=
  iteB (decide ((trips.n : Int) > (12 : Int))) (
  R (.int .i64 (1 : Int)) H) (
  ∃ I_ : Int → Heap → Prop, ∃ M_ : Int → Heap → Nat, I_ (0 : Int) H ∧ (∀ i : Int, ∀ H1 : Heap, I_ i H1 → F_ref39_CheckTrips_r1 R trips I_ M_ i H1))

theorem F_ref39_CheckTrips_eq (R : Value → Heap → Prop) (trips : Sl) (H : Heap) : wpF Try.prog Try.f22 [(3, .int .i64 0)] [] [(4, [3], [0])] [18] [.slice trips.p trips.n trips.c] H R = F_ref39_CheckTrips R trips H := by kernel_rfl

theorem F_ref39_CheckTrips_ok {R : Value → Heap → Prop} (trips : Sl) {H : Heap} (h : F_ref39_CheckTrips R trips H) : CallsH Try.prog n_ref39_CheckTrips #[.slice trips.p trips.n trips.c] H R :=
  wpF_ok Try.func22 (F_ref39_CheckTrips_eq R trips H) h

/-! ### 23: platformfw/platformfwlaw39.Actors -/

def F_law39_Actors_r1 (R : Value → Heap → Prop) (raw : Sl) (I_ : Sl → Int → Heap → Prop) (M_ : Sl → Int → Heap → Nat) (out : Sl) (i : Int) (H1 : Heap) : Prop :=
  iteB (decide (i < (raw.n : Int))) (
  iteB (decide (i < (8 : Int))) (
  0 ≤ i ∧ i < (raw.n : Int) ∧ (unSome raw.p (fun a =>
  ∃ x : Int, rd H1 ((a.add (i.toNat * 3)).add 1) = some (.int .u64 x) ∧ (
  letV (x.tmod (10 : Int)) (fun low : Int =>
  0 ≤ i ∧ i < (raw.n : Int) ∧ (unSome raw.p (fun a1 =>
  ∃ x1 : Int, rd H1 (a1.add (i.toNat * 3)) = some (.int .u64 x1) ∧ (
  0 ≤ i ∧ i < (raw.n : Int) ∧ (unSome raw.p (fun a2 =>
  ∃ x2 : Int, rd H1 ((a2.add (i.toNat * 3)).add 2) = some (.int .u64 x2) ∧ (
  letH (H1.push (.cells #[.int .u64 (x1.tmod (40 : Int)), .int .u64 low, .int .u64 (IntKind.u64.wrap (low + (x2.tmod (30 : Int))))] t_api_Actor (0, 0))) (fun H2 : Heap =>
  runH Try.prog (Builtin.append_ #[t_sl_api_Actor, t_sl_api_Actor] t_sl_api_Actor #[.slice out.p out.n out.c, .slice (some (⟨H1.size, 0, none⟩ : Addr)) 1 1]) H2 (fun v H3 =>
  ∃ out1 : Sl, v = .slice out1.p out1.n out1.c ∧ (
  letV (IntKind.i64.wrap (i + (1 : Int))) (fun i1 : Int =>
  I_ out1 i1 H3 ∧ M_ out1 i1 H3 < M_ out i H1))))))))))))))) (
  R (.slice out.p out.n out.c) H1)) (
  R (.slice out.p out.n out.c) H1)

def F_law39_Actors (R : Value → Heap → Prop) (raw : Sl) (H : Heap) : Prop :=
  ∃ I_ : Sl → Int → Heap → Prop, ∃ M_ : Sl → Int → Heap → Nat, I_ (Sl.mk none 0 0) (0 : Int) H ∧ (∀ out : Sl, ∀ i : Int, ∀ H1 : Heap, I_ out i H1 → F_law39_Actors_r1 R raw I_ M_ out i H1)

theorem F_law39_Actors_eq (R : Value → Heap → Prop) (raw : Sl) (H : Heap) : wpF Try.prog Try.f23 [(3, .slice none 0 0), (4, .int .i64 0)] [] [(3, [3, 4], [0])] [18] [.slice raw.p raw.n raw.c] H R = F_law39_Actors R raw H := by kernel_rfl

theorem F_law39_Actors_ok {R : Value → Heap → Prop} (raw : Sl) {H : Heap} (h : F_law39_Actors R raw H) : CallsH Try.prog n_law39_Actors #[.slice raw.p raw.n raw.c] H R :=
  wpF_ok Try.func23 (F_law39_Actors_eq R raw H) h

/-! ### 24: platformfw/thermal.Allocate -/

def F_thermal_Allocate_r1 (budget : Int) (actors : Sl) (J_ : Int → Heap → Prop) (I_ : Int → Int → Heap → Prop) (M_ : Int → Int → Heap → Nat) (low : Int) (high : Int) (H4 : Heap) : Prop :=
  iteB (decide ((IntKind.u64.wrap (high - low)) > (1 : Int))) (
  letV (IntKind.u64.wrap (low + (IntKind.u64.wrap ((IntKind.u64.wrap (high - low)).tdiv (2 : Int))))) (fun middle : Int =>
  CallsH Try.prog n_thermal_total #[.slice actors.p actors.n actors.c, .int .u64 middle] H4 (fun v3 H5 =>
  ∃ x3 : Int, v3 = .int .u64 x3 ∧ (
  iteB (decide (x3 ≤ budget)) (
  I_ middle high H5 ∧ M_ middle high H5 < M_ low high H4) (
  I_ low middle H5 ∧ M_ low middle H5 < M_ low high H4))))) (
  J_ low H4)

def F_thermal_Allocate_k2 (actors : Sl) (H7 : Heap) (I_1 : Int → Int → Heap → Prop) (M_1 : Int → Int → Heap → Nat) (restv1 : Int) (x5 : Int) (H9 : Heap) (x18 : Bool) (H15 : Heap) : Prop :=
  iteB x18 (
  0 ≤ x5 ∧ x5 < ((actors.n : Int).toNat : Int) ∧ (∃ x19 : Int, rd H15 ((⟨H7.size, 0, none⟩ : Addr).add (x5.toNat * 1)) = some (.int .u64 x19) ∧ (
  0 ≤ x5 ∧ x5 < ((actors.n : Int).toNat : Int) ∧ (okRow H15 ((⟨H7.size, 0, none⟩ : Addr).add (x5.toNat * 1)) 1 ∧ (
  letH (wrs H15 ((⟨H7.size, 0, none⟩ : Addr).add (x5.toNat * 1)) [.int .u64 (IntKind.u64.wrap (x19 + (1 : Int)))]) (fun H16 : Heap =>
  letV (IntKind.u64.wrap (restv1 - (1 : Int))) (fun restv2 : Int =>
  I_1 restv2 (IntKind.i64.wrap (x5 + (1 : Int))) H16 ∧ M_1 restv2 (IntKind.i64.wrap (x5 + (1 : Int))) H16 < M_1 restv1 x5 H9))))))) (
  I_1 restv1 (IntKind.i64.wrap (x5 + (1 : Int))) H15 ∧ M_1 restv1 (IntKind.i64.wrap (x5 + (1 : Int))) H15 < M_1 restv1 x5 H9)

def F_thermal_Allocate_r3 (R : Value → Heap → Prop) (actors : Sl) (level : Int) (H7 : Heap) (I_1 : Int → Int → Heap → Prop) (M_1 : Int → Int → Heap → Nat) (restv1 : Int) (x5 : Int) (H9 : Heap) : Prop :=
  iteB (decide (x5 < (actors.n : Int))) (
  0 ≤ x5 ∧ x5 < (actors.n : Int) ∧ (unSome actors.p (fun a =>
  ∃ x6 : Int, rd H9 (a.add (x5.toNat * 3)) = some (.int .u64 x6) ∧ ∃ x7 : Int, rd H9 ((a.add (x5.toNat * 3)).add 1) = some (.int .u64 x7) ∧ ∃ x8 : Int, rd H9 ((a.add (x5.toNat * 3)).add 2) = some (.int .u64 x8) ∧ (
  letH (H9.push (.cells #[.int .u64 (0 : Int), .int .u64 (0 : Int), .int .u64 (0 : Int)] t_api_Actor (0, 0))) (fun H10 : Heap =>
  okRow H10 (⟨H9.size, 0, none⟩ : Addr) 3 ∧ (
  letH (wrs H10 (⟨H9.size, 0, none⟩ : Addr) [.int .u64 x6, .int .u64 x7, .int .u64 x8]) (fun H11 : Heap =>
  ∃ x9 : Int, rd H11 (⟨H9.size, 0, none⟩ : Addr) = some (.int .u64 x9) ∧ ∃ x10 : Int, rd H11 ((⟨H9.size, 0, none⟩ : Addr).add 1) = some (.int .u64 x10) ∧ ∃ x11 : Int, rd H11 ((⟨H9.size, 0, none⟩ : Addr).add 2) = some (.int .u64 x11) ∧ (
  CallsH Try.prog n_thermal_at #[.agg #[.int .u64 x9, .int .u64 x10, .int .u64 x11], .int .u64 level] H11 (fun v5 H12 =>
  ∃ x12 : Int, v5 = .int .u64 x12 ∧ (
  0 ≤ x5 ∧ x5 < ((actors.n : Int).toNat : Int) ∧ (okRow H12 ((⟨H7.size, 0, none⟩ : Addr).add (x5.toNat * 1)) 1 ∧ (
  letH (wrs H12 ((⟨H7.size, 0, none⟩ : Addr).add (x5.toNat * 1)) [.int .u64 x12]) (fun H13 : Heap =>
  ∃ J_1 : Bool → Heap → Prop, (
  iteB (decide (restv1 > (0 : Int))) (
  ∃ x13 : Int, rd H13 ((⟨H9.size, 0, none⟩ : Addr).add 1) = some (.int .u64 x13) ∧ (
  iteB (decide (x13 ≤ level)) (
  ∃ x14 : Int, rd H13 (⟨H9.size, 0, none⟩ : Addr) = some (.int .u64 x14) ∧ ∃ x15 : Int, rd H13 ((⟨H9.size, 0, none⟩ : Addr).add 1) = some (.int .u64 x15) ∧ ∃ x16 : Int, rd H13 ((⟨H9.size, 0, none⟩ : Addr).add 2) = some (.int .u64 x16) ∧ (
  CallsH Try.prog n_thermal_want #[.agg #[.int .u64 x14, .int .u64 x15, .int .u64 x16]] H13 (fun v6 H14 =>
  ∃ x17 : Int, v6 = .int .u64 x17 ∧ (
  J_1 (decide (level < x17)) H14)))) (
  J_1 false H13))) (
  J_1 false H13)) ∧ (∀ x18 : Bool, ∀ H15 : Heap, J_1 x18 H15 → F_thermal_Allocate_k2 actors H7 I_1 M_1 restv1 x5 H9 x18 H15)))))))))))))) (
  R (.tuple #[.slice (some (⟨H7.size, 0, none⟩ : Addr)) ((actors.n : Int).toNat) ((actors.n : Int).toNat), .int .i64 (0 : Int)]) H9)

def F_thermal_Allocate_k4 (R : Value → Heap → Prop) (budget : Int) (actors : Sl) (level : Int) (H6 : Heap) : Prop :=
  CallsH Try.prog n_thermal_total #[.slice actors.p actors.n actors.c, .int .u64 level] H6 (fun v4 H7 =>
  ∃ x4 : Int, v4 = .int .u64 x4 ∧ (
  letV (IntKind.u64.wrap (budget - x4)) (fun restv : Int =>
  0 ≤ (actors.n : Int) ∧ (actors.n : Int) ≤ (actors.n : Int) ∧ (actors.n : Int) * ((8 : Nat) : Int) ≤ 281474976710656 ∧ (
  letH (H7.push (.cells (zeroRow (.int .u64 (0 : Int)) (actors.n : Int).toNat) t_uint64 (0, 0))) (fun H8 : Heap =>
  ∃ I_1 : Int → Int → Heap → Prop, ∃ M_1 : Int → Int → Heap → Nat, I_1 restv (0 : Int) H8 ∧ (∀ restv1 : Int, ∀ x5 : Int, ∀ H9 : Heap, I_1 restv1 x5 H9 → F_thermal_Allocate_r3 R actors level H7 I_1 M_1 restv1 x5 H9))))))

def F_thermal_Allocate (R : Value → Heap → Prop) (budget : Int) (actors : Sl) (H : Heap) : Prop :=
  CallsH Try.prog n_thermal_validActors #[.slice actors.p actors.n actors.c] H (fun v H1 =>
  ∃ x : Bool, v = .bool x ∧ (
  iteB (!x) (
  R (.tuple #[.slice none 0 0, .int .i64 (1 : Int)]) H1) (
  CallsH Try.prog n_thermal_total #[.slice actors.p actors.n actors.c, .int .u64 (0 : Int)] H1 (fun v1 H2 =>
  ∃ x1 : Int, v1 = .int .u64 x1 ∧ (
  iteB (decide (x1 > budget)) (
  R (.tuple #[.slice none 0 0, .int .i64 (19 : Int)]) H2) (
  ∃ J_ : Int → Heap → Prop, (
  CallsH Try.prog n_thermal_total #[.slice actors.p actors.n actors.c, .int .u64 (4294967296 : Int)] H2 (fun v2 H3 =>
  ∃ x2 : Int, v2 = .int .u64 x2 ∧ (
  iteB (decide (x2 > budget)) (
  ∃ I_ : Int → Int → Heap → Prop, ∃ M_ : Int → Int → Heap → Nat, I_ (0 : Int) (4294967296 : Int) H3 ∧ (∀ low : Int, ∀ high : Int, ∀ H4 : Heap, I_ low high H4 → F_thermal_Allocate_r1 budget actors J_ I_ M_ low high H4)) (
  J_ (4294967296 : Int) H3)))) ∧ (∀ level : Int, ∀ H6 : Heap, J_ level H6 → F_thermal_Allocate_k4 R budget actors level H6)))))))

theorem F_thermal_Allocate_eq (R : Value → Heap → Prop) (budget : Int) (actors : Sl) (H : Heap) : wpF Try.prog Try.f24 [(6, .int .u64 0), (7, .int .u64 0), (8, .int .u64 0), (10, .int .u64 0), (55, .int .i64 0), (79, .bool false)] [(14, [6], [0, 1]), (21, [79], [6, 10, 11, 12, 53, 54, 55])] [(8, [7, 8], [0, 1]), (17, [10, 55], [6, 11, 53, 54])] [18] [.int .u64 budget, .slice actors.p actors.n actors.c] H R = F_thermal_Allocate R budget actors H := by kernel_rfl

theorem F_thermal_Allocate_ok {R : Value → Heap → Prop} (budget : Int) (actors : Sl) {H : Heap} (h : F_thermal_Allocate R budget actors H) : CallsH Try.prog n_thermal_Allocate #[.int .u64 budget, .slice actors.p actors.n actors.c] H R :=
  wpF_ok Try.func24 (F_thermal_Allocate_eq R budget actors H) h

/-! ### 25: platformfw/platformfwref39.Allocate -/

def F_ref39_Allocate_k1 (x7 : Sl) (I_1 : Int → Int → Heap → Prop) (M_1 : Int → Int → Heap → Nat) (used : Int) (i : Int) (H7 : Heap) (x14 : Bool) (H9 : Heap) : Prop :=
  iteB x14 (
  0 ≤ i ∧ i < (x7.n : Int) ∧ (unSome x7.p (fun a2 =>
  ∃ x15 : Int, rd H9 (a2.add (i.toNat * 1)) = some (.int .u64 x15) ∧ (
  0 ≤ i ∧ i < (x7.n : Int) ∧ (unSome x7.p (fun a3 =>
  okRow H9 (a3.add (i.toNat * 1)) 1 ∧ (
  letH (wrs H9 (a3.add (i.toNat * 1)) [.int .u64 (IntKind.u64.wrap (x15 + (1 : Int)))]) (fun H10 : Heap =>
  letV (IntKind.u64.wrap (used + (1 : Int))) (fun used1 : Int =>
  letV (IntKind.i64.wrap (i + (1 : Int))) (fun i1 : Int =>
  I_1 used1 i1 H10 ∧ M_1 used1 i1 H10 < M_1 used i H7)))))))))) (
  letV (IntKind.i64.wrap (i + (1 : Int))) (fun i2 : Int =>
  I_1 used i2 H9 ∧ M_1 used i2 H9 < M_1 used i H7))

def F_ref39_Allocate_r2 (R : Value → Heap → Prop) (budget : Int) (actors : Sl) (low : Int) (x7 : Sl) (I_1 : Int → Int → Heap → Prop) (M_1 : Int → Int → Heap → Nat) (used : Int) (i : Int) (H7 : Heap) : Prop :=
  iteB (decide (i < (actors.n : Int))) (
  iteB (decide (used < budget)) (
  ∃ J_ : Bool → Heap → Prop, (
  0 ≤ i ∧ i < (actors.n : Int) ∧ (unSome actors.p (fun a =>
  ∃ x9 : Int, rd H7 ((a.add (i.toNat * 3)).add 1) = some (.int .u64 x9) ∧ (
  iteB (decide (x9 ≤ low)) (
  0 ≤ i ∧ i < (actors.n : Int) ∧ (unSome actors.p (fun a1 =>
  ∃ x10 : Int, rd H7 (a1.add (i.toNat * 3)) = some (.int .u64 x10) ∧ ∃ x11 : Int, rd H7 ((a1.add (i.toNat * 3)).add 1) = some (.int .u64 x11) ∧ ∃ x12 : Int, rd H7 ((a1.add (i.toNat * 3)).add 2) = some (.int .u64 x12) ∧ (
  CallsH Try.prog n_ref39_want #[.agg #[.int .u64 x10, .int .u64 x11, .int .u64 x12]] H7 (fun v5 H8 =>
  ∃ x13 : Int, v5 = .int .u64 x13 ∧ (
  J_ (decide (low < x13)) H8)))))) (
  J_ false H7))))) ∧ (∀ x14 : Bool, ∀ H9 : Heap, J_ x14 H9 → F_ref39_Allocate_k1 x7 I_1 M_1 used i H7 x14 H9)) (
  R (.tuple #[.slice x7.p x7.n x7.c, .int .i64 (0 : Int)]) H7)) (
  R (.tuple #[.slice x7.p x7.n x7.c, .int .i64 (0 : Int)]) H7)

def F_ref39_Allocate_r3 (R : Value → Heap → Prop) (budget : Int) (actors : Sl) (I_ : Int → Int → Heap → Prop) (M_ : Int → Int → Heap → Nat) (low : Int) (high : Int) (H4 : Heap) : Prop :=
  iteB (decide ((IntKind.u64.wrap (high - low)) > (1 : Int))) (
  letV (IntKind.u64.wrap ((IntKind.u64.wrap (low + high)).tdiv (2 : Int))) (fun mid : Int =>
  CallsH Try.prog n_ref39_at #[.slice actors.p actors.n actors.c, .int .u64 mid] H4 (fun v3 H5 =>
  ∃ x5 : Sl, ∃ x6 : Int, v3 = .tuple #[.slice x5.p x5.n x5.c, .int .u64 x6] ∧ (
  iteB (decide (x6 ≤ budget)) (
  I_ mid high H5 ∧ M_ mid high H5 < M_ low high H4) (
  I_ low mid H5 ∧ M_ low mid H5 < M_ low high H4))))) (
  CallsH Try.prog n_ref39_at #[.slice actors.p actors.n actors.c, .int .u64 low] H4 (fun v4 H6 =>
  ∃ x7 : Sl, ∃ x8 : Int, v4 = .tuple #[.slice x7.p x7.n x7.c, .int .u64 x8] ∧ (
  ∃ I_1 : Int → Int → Heap → Prop, ∃ M_1 : Int → Int → Heap → Nat, I_1 x8 (0 : Int) H6 ∧ (∀ used : Int, ∀ i : Int, ∀ H7 : Heap, I_1 used i H7 → F_ref39_Allocate_r2 R budget actors low x7 I_1 M_1 used i H7))))

def F_ref39_Allocate (R : Value → Heap → Prop) (budget : Int) (actors : Sl) (H : Heap) : Prop :=
  CallsH Try.prog n_ref39_valid #[.slice actors.p actors.n actors.c] H (fun v H1 =>
  ∃ x : Bool, v = .bool x ∧ (
  iteB (!x) (
  R (.tuple #[.slice none 0 0, .int .i64 (1 : Int)]) H1) (
  CallsH Try.prog n_ref39_at #[.slice actors.p actors.n actors.c, .int .u64 (0 : Int)] H1 (fun v1 H2 =>
  ∃ x1 : Sl, ∃ x2 : Int, v1 = .tuple #[.slice x1.p x1.n x1.c, .int .u64 x2] ∧ (
  iteB (decide (x2 > budget)) (
  R (.tuple #[.slice none 0 0, .int .i64 (19 : Int)]) H2) (
  CallsH Try.prog n_ref39_at #[.slice actors.p actors.n actors.c, .int .u64 (4294967296 : Int)] H2 (fun v2 H3 =>
  ∃ x3 : Sl, ∃ x4 : Int, v2 = .tuple #[.slice x3.p x3.n x3.c, .int .u64 x4] ∧ (
  iteB (decide (x4 ≤ budget)) (
  R (.tuple #[.slice x3.p x3.n x3.c, .int .i64 (0 : Int)]) H3) (
  ∃ I_ : Int → Int → Heap → Prop, ∃ M_ : Int → Int → Heap → Nat, I_ (0 : Int) (4294967296 : Int) H3 ∧ (∀ low : Int, ∀ high : Int, ∀ H4 : Heap, I_ low high H4 → F_ref39_Allocate_r3 R budget actors I_ M_ low high H4))))))))))

theorem F_ref39_Allocate_eq (R : Value → Heap → Prop) (budget : Int) (actors : Sl) (H : Heap) : wpF Try.prog Try.f25 [(10, .int .u64 0), (11, .int .u64 0), (16, .int .u64 0), (17, .int .i64 0), (89, .bool false)] [(21, [89], [0, 1, 10, 15, 16, 17])] [(10, [10, 11], [0, 1]), (18, [16, 17], [0, 1, 10, 15])] [18] [.int .u64 budget, .slice actors.p actors.n actors.c] H R = F_ref39_Allocate R budget actors H := by kernel_rfl

theorem F_ref39_Allocate_ok {R : Value → Heap → Prop} (budget : Int) (actors : Sl) {H : Heap} (h : F_ref39_Allocate R budget actors H) : CallsH Try.prog n_ref39_Allocate #[.int .u64 budget, .slice actors.p actors.n actors.c] H R :=
  wpF_ok Try.func25 (F_ref39_Allocate_eq R budget actors H) h

/-! ### 26: platformfw/platformfwhelp.Equal[uint64] -/

def F_help_Equal_uint64_r1 (R : Value → Heap → Prop) (a : Sl) (b : Sl) (I_ : Int → Heap → Prop) (M_ : Int → Heap → Nat) (i : Int) (H1 : Heap) : Prop :=
  iteB (decide (i < (a.n : Int))) (
  0 ≤ i ∧ i < (a.n : Int) ∧ (unSome a.p (fun a1 =>
  ∃ x : Int, rd H1 (a1.add (i.toNat * 1)) = some (.int .u64 x) ∧ (
  0 ≤ i ∧ i < (b.n : Int) ∧ (unSome b.p (fun a2 =>
  ∃ x1 : Int, rd H1 (a2.add (i.toNat * 1)) = some (.int .u64 x1) ∧ (
  iteB (x != x1) (
  R (.bool false) H1) (
  letV (IntKind.i64.wrap (i + (1 : Int))) (fun i1 : Int =>
  I_ i1 H1 ∧ M_ i1 H1 < M_ i H1))))))))) (
  R (.bool true) H1)

def F_help_Equal_uint64 (R : Value → Heap → Prop) (a : Sl) (b : Sl) (H : Heap) : Prop :=
  iteB ((a.n : Int) != (b.n : Int)) (
  R (.bool false) H) (
  ∃ I_ : Int → Heap → Prop, ∃ M_ : Int → Heap → Nat, I_ (0 : Int) H ∧ (∀ i : Int, ∀ H1 : Heap, I_ i H1 → F_help_Equal_uint64_r1 R a b I_ M_ i H1))

theorem F_help_Equal_uint64_eq (R : Value → Heap → Prop) (a : Sl) (b : Sl) (H : Heap) : wpF Try.prog Try.f26 [(5, .int .i64 0)] [] [(4, [5], [0, 1])] [18] [.slice a.p a.n a.c, .slice b.p b.n b.c] H R = F_help_Equal_uint64 R a b H := by kernel_rfl

theorem F_help_Equal_uint64_ok {R : Value → Heap → Prop} (a : Sl) (b : Sl) {H : Heap} (h : F_help_Equal_uint64 R a b H) : CallsH Try.prog n_help_Equal_uint64 #[.slice a.p a.n a.c, .slice b.p b.n b.c] H R :=
  wpF_ok Try.func26 (F_help_Equal_uint64_eq R a b H) h

/-! ### 27: platformfw/platformfwlaw39.degree -/

def F_law39_degree (R : Value → Heap → Prop) (t : Int) (i : Int) (H : Heap) : Prop :=
  iteB ((i.tmod (8 : Int)) == (7 : Int)) (
  R (.int .i64 t) H) (
  letV (IntKind.i64.wrap ((IntKind.i64.wrap ((IntKind.u64.wrap t).tmod (141 : Int))) - (80 : Int))) (fun x : Int =>
  R (.int .i64 x) H))

theorem F_law39_degree_eq (R : Value → Heap → Prop) (t : Int) (i : Int) (H : Heap) : wpF Try.prog Try.f27 [] [] [] [18] [.int .i64 t, .int .i64 i] H R = F_law39_degree R t i H := by kernel_rfl

theorem F_law39_degree_ok {R : Value → Heap → Prop} (t : Int) (i : Int) {H : Heap} (h : F_law39_degree R t i H) : CallsH Try.prog n_law39_degree #[.int .i64 t, .int .i64 i] H R :=
  wpF_ok Try.func27 (F_law39_degree_eq R t i H) h

/-! ### 28: (*platformfw/thermal.Zone).Update -/

def F_thermal_Zone_Update_k1 (I_ : Bool → Bool → Int → Heap → Prop) (M_ : Bool → Bool → Int → Heap → Nat) (passive : Bool) (critical : Bool) (x2 : Int) (H2 : Heap) (passive1 : Bool) (H8 : Heap) : Prop :=
  iteB critical (
  I_ passive1 true (IntKind.i64.wrap (x2 + (1 : Int))) H8 ∧ M_ passive1 true (IntKind.i64.wrap (x2 + (1 : Int))) H8 < M_ passive critical x2 H2) (
  ∃ x14 : Int, rd H8 (⟨H2.size, 0, none⟩ : Addr) = some (.int .i64 x14) ∧ (
  I_ passive1 (x14 == (3 : Int)) (IntKind.i64.wrap (x2 + (1 : Int))) H8 ∧ M_ passive1 (x14 == (3 : Int)) (IntKind.i64.wrap (x2 + (1 : Int))) H8 < M_ passive critical x2 H2))

def F_thermal_Zone_Update_k2 (z : Addr) (I_ : Bool → Bool → Int → Heap → Prop) (M_ : Bool → Bool → Int → Heap → Nat) (passive : Bool) (critical : Bool) (x2 : Int) (H2 : Heap) (H7 : Heap) : Prop :=
  ∃ x11 : Sl, rd H7 (z.add 1) = some (.slice x11.p x11.n x11.c) ∧ (
  0 ≤ x2 ∧ x2 < (x11.n : Int) ∧ (unSome x11.p (fun a3 =>
  ∃ x12 : Bool, rd H7 (a3.add (x2.toNat * 1)) = some (.bool x12) ∧ (
  iteB x12 (
  ∃ J_2 : Bool → Heap → Prop, (
  iteB passive (
  J_2 true H7) (
  ∃ x13 : Int, rd H7 (⟨H2.size, 0, none⟩ : Addr) = some (.int .i64 x13) ∧ (
  J_2 (x13 == (2 : Int)) H7))) ∧ (∀ passive1 : Bool, ∀ H8 : Heap, J_2 passive1 H8 → F_thermal_Zone_Update_k1 I_ M_ passive critical x2 H2 passive1 H8)) (
  I_ passive critical (IntKind.i64.wrap (x2 + (1 : Int))) H7 ∧ M_ passive critical (IntKind.i64.wrap (x2 + (1 : Int))) H7 < M_ passive critical x2 H2)))))

def F_thermal_Zone_Update_k3 (R : Value → Heap → Prop) (z : Addr) (critical : Bool) (H11 : Heap) : Prop :=
  ∃ x18 : Int, rd H11 (z.add 3) = some (.int .i64 x18) ∧ (
  R (.tuple #[.int .i64 x18, .bool critical, .int .i64 (0 : Int)]) H11)

def F_thermal_Zone_Update_r4 (R : Value → Heap → Prop) (z : Addr) (temperature : Int) (x1 : Sl) (I_ : Bool → Bool → Int → Heap → Prop) (M_ : Bool → Bool → Int → Heap → Nat) (passive : Bool) (critical : Bool) (x2 : Int) (H2 : Heap) : Prop :=
  iteB (decide (x2 < (x1.n : Int))) (
  0 ≤ x2 ∧ x2 < (x1.n : Int) ∧ (unSome x1.p (fun a =>
  ∃ x3 : Int, rd H2 (a.add (x2.toNat * 3)) = some (.int .i64 x3) ∧ ∃ x4 : Int, rd H2 ((a.add (x2.toNat * 3)).add 1) = some (.int .i64 x4) ∧ ∃ x5 : Int, rd H2 ((a.add (x2.toNat * 3)).add 2) = some (.int .i64 x5) ∧ (
  letH (H2.push (.cells #[.int .i64 (0 : Int), .int .i64 (0 : Int), .int .i64 (0 : Int)] t_api_Trip (0, 0))) (fun H3 : Heap =>
  okRow H3 (⟨H2.size, 0, none⟩ : Addr) 3 ∧ (
  letH (wrs H3 (⟨H2.size, 0, none⟩ : Addr) [.int .i64 x3, .int .i64 x4, .int .i64 x5]) (fun H4 : Heap =>
  ∃ J_1 : Heap → Prop, (
  ∃ x6 : Int, rd H4 ((⟨H2.size, 0, none⟩ : Addr).add 1) = some (.int .i64 x6) ∧ (
  iteB (decide (temperature ≥ x6)) (
  ∃ x7 : Sl, rd H4 (z.add 1) = some (.slice x7.p x7.n x7.c) ∧ (
  0 ≤ x2 ∧ x2 < (x7.n : Int) ∧ (unSome x7.p (fun a1 =>
  okRow H4 (a1.add (x2.toNat * 1)) 1 ∧ (
  letH (wrs H4 (a1.add (x2.toNat * 1)) [.bool true]) (fun H5 : Heap =>
  J_1 H5)))))) (
  ∃ x8 : Int, rd H4 ((⟨H2.size, 0, none⟩ : Addr).add 1) = some (.int .i64 x8) ∧ (
  ∃ x9 : Int, rd H4 ((⟨H2.size, 0, none⟩ : Addr).add 2) = some (.int .i64 x9) ∧ (
  iteB (decide (temperature < (IntKind.i64.wrap (x8 - x9)))) (
  ∃ x10 : Sl, rd H4 (z.add 1) = some (.slice x10.p x10.n x10.c) ∧ (
  0 ≤ x2 ∧ x2 < (x10.n : Int) ∧ (unSome x10.p (fun a2 =>
  okRow H4 (a2.add (x2.toNat * 1)) 1 ∧ (
  letH (wrs H4 (a2.add (x2.toNat * 1)) [.bool false]) (fun H6 : Heap =>
  J_1 H6)))))) (
  J_1 H4)))))) ∧ (∀ H7 : Heap, J_1 H7 → F_thermal_Zone_Update_k2 z I_ M_ passive critical x2 H2 H7)))))))) (
  ∃ J_3 : Heap → Prop, (
  iteB passive (
  ∃ x15 : Int, rd H2 (z.add 3) = some (.int .i64 x15) ∧ (
  ∃ x16 : Int, rd H2 (z.add 2) = some (.int .i64 x16) ∧ (
  okRow H2 (z.add 3) 1 ∧ (
  letH (wrs H2 (z.add 3) [.int .i64 (if x16 < (IntKind.i64.wrap (x15 + (1 : Int))) then x16 else (IntKind.i64.wrap (x15 + (1 : Int))))]) (fun H9 : Heap =>
  J_3 H9))))) (
  ∃ x17 : Int, rd H2 (z.add 3) = some (.int .i64 x17) ∧ (
  okRow H2 (z.add 3) 1 ∧ (
  letH (wrs H2 (z.add 3) [.int .i64 (if (0 : Int) > (IntKind.i64.wrap (x17 - (1 : Int))) then (0 : Int) else (IntKind.i64.wrap (x17 - (1 : Int))))]) (fun H10 : Heap =>
  J_3 H10))))) ∧ (∀ H11 : Heap, J_3 H11 → F_thermal_Zone_Update_k3 R z critical H11))

def F_thermal_Zone_Update_k5 (R : Value → Heap → Prop) (z : Addr) (temperature : Int) (x : Bool) (H1 : Heap) : Prop :=
  iteB x (
  R (.tuple #[.int .i64 (0 : Int), .bool false, .int .i64 (1 : Int)]) H1) (
  ∃ x1 : Sl, rd H1 z = some (.slice x1.p x1.n x1.c) ∧ (
  ∃ I_ : Bool → Bool → Int → Heap → Prop, ∃ M_ : Bool → Bool → Int → Heap → Nat, I_ false false (0 : Int) H1 ∧ (∀ passive : Bool, ∀ critical : Bool, ∀ x2 : Int, ∀ H2 : Heap, I_ passive critical x2 H2 → F_thermal_Zone_Update_r4 R z temperature x1 I_ M_ passive critical x2 H2)))

def F_thermal_Zone_Update (R : Value → Heap → Prop) (z : Addr) (temperature : Int) (H : Heap) : Prop :=
  ∃ J_ : Bool → Heap → Prop, (
  iteB (decide (temperature < (-134217728 : Int))) (
  J_ true H) (
  J_ (decide (temperature > (134217728 : Int))) H)) ∧ (∀ x : Bool, ∀ H1 : Heap, J_ x H1 → F_thermal_Zone_Update_k5 R z temperature x H1)

theorem F_thermal_Zone_Update_eq (R : Value → Heap → Prop) (z : Addr) (temperature : Int) (H : Heap) : wpF Try.prog Try.f28 [(7, .bool false), (8, .bool false), (16, .bool false), (22, .int .i64 0)] [(2, [16], [0, 1]), (11, [], [0, 1, 7, 8, 9, 10, 20, 21, 22]), (13, [7], [0, 1, 8, 10, 20, 21, 22]), (18, [], [0, 8])] [(5, [7, 8, 22], [0, 1, 20, 21])] [18] [.pointer (some z), .int .i64 temperature] H R = F_thermal_Zone_Update R z temperature H := by kernel_rfl

theorem F_thermal_Zone_Update_ok {R : Value → Heap → Prop} (z : Addr) (temperature : Int) {H : Heap} (h : F_thermal_Zone_Update R z temperature H) : CallsH Try.prog n_thermal_Zone_Update #[.pointer (some z), .int .i64 temperature] H R :=
  wpF_ok Try.func28 (F_thermal_Zone_Update_eq R z temperature H) h

/-! ### 29: (*platformfw/platformfwref39.Zone).Update -/

def F_ref39_Zone_Update_k1 (z : Addr) (I_ : Bool → Bool → Int → Heap → Prop) (M_ : Bool → Bool → Int → Heap → Nat) (passive : Bool) (critical : Bool) (i : Int) (H2 : Heap) (passive1 : Bool) (H6 : Heap) : Prop :=
  iteB critical (
  letV (IntKind.i64.wrap (i + (1 : Int))) (fun i1 : Int =>
  I_ passive1 true i1 H6 ∧ M_ passive1 true i1 H6 < M_ passive critical i H2)) (
  ∃ x14 : Sl, rd H6 (z.add 1) = some (.slice x14.p x14.n x14.c) ∧ (
  0 ≤ i ∧ i < (x14.n : Int) ∧ (unSome x14.p (fun a7 =>
  ∃ x15 : Bool, rd H6 (a7.add (i.toNat * 1)) = some (.bool x15) ∧ (
  iteB x15 (
  ∃ x16 : Sl, rd H6 z = some (.slice x16.p x16.n x16.c) ∧ (
  0 ≤ i ∧ i < (x16.n : Int) ∧ (unSome x16.p (fun a8 =>
  ∃ x17 : Int, rd H6 (a8.add (i.toNat * 3)) = some (.int .i64 x17) ∧ (
  letV (IntKind.i64.wrap (i + (1 : Int))) (fun i2 : Int =>
  I_ passive1 (x17 == (3 : Int)) i2 H6 ∧ M_ passive1 (x17 == (3 : Int)) i2 H6 < M_ passive critical i H2)))))) (
  letV (IntKind.i64.wrap (i + (1 : Int))) (fun i3 : Int =>
  I_ passive1 false i3 H6 ∧ M_ passive1 false i3 H6 < M_ passive critical i H2)))))))

def F_ref39_Zone_Update_k2 (z : Addr) (I_ : Bool → Bool → Int → Heap → Prop) (M_ : Bool → Bool → Int → Heap → Nat) (passive : Bool) (critical : Bool) (i : Int) (H2 : Heap) (H5 : Heap) : Prop :=
  ∃ J_2 : Bool → Heap → Prop, (
  iteB passive (
  J_2 true H5) (
  ∃ x10 : Sl, rd H5 (z.add 1) = some (.slice x10.p x10.n x10.c) ∧ (
  0 ≤ i ∧ i < (x10.n : Int) ∧ (unSome x10.p (fun a5 =>
  ∃ x11 : Bool, rd H5 (a5.add (i.toNat * 1)) = some (.bool x11) ∧ (
  iteB x11 (
  ∃ x12 : Sl, rd H5 z = some (.slice x12.p x12.n x12.c) ∧ (
  0 ≤ i ∧ i < (x12.n : Int) ∧ (unSome x12.p (fun a6 =>
  ∃ x13 : Int, rd H5 (a6.add (i.toNat * 3)) = some (.int .i64 x13) ∧ (
  J_2 (x13 == (2 : Int)) H5))))) (
  J_2 false H5))))))) ∧ (∀ passive1 : Bool, ∀ H6 : Heap, J_2 passive1 H6 → F_ref39_Zone_Update_k1 z I_ M_ passive critical i H2 passive1 H6)

def F_ref39_Zone_Update_k3 (R : Value → Heap → Prop) (z : Addr) (critical : Bool) (H9 : Heap) : Prop :=
  ∃ x21 : Int, rd H9 (z.add 3) = some (.int .i64 x21) ∧ (
  R (.tuple #[.int .i64 x21, .bool critical, .int .i64 (0 : Int)]) H9)

def F_ref39_Zone_Update_r4 (R : Value → Heap → Prop) (z : Addr) (temperature : Int) (I_ : Bool → Bool → Int → Heap → Prop) (M_ : Bool → Bool → Int → Heap → Nat) (passive : Bool) (critical : Bool) (i : Int) (H2 : Heap) : Prop :=
  ∃ x1 : Sl, rd H2 z = some (.slice x1.p x1.n x1.c) ∧ (
  iteB (decide (i < (x1.n : Int))) (
  ∃ J_1 : Heap → Prop, (
  ∃ x2 : Sl, rd H2 z = some (.slice x2.p x2.n x2.c) ∧ (
  0 ≤ i ∧ i < (x2.n : Int) ∧ (unSome x2.p (fun a =>
  ∃ x3 : Int, rd H2 ((a.add (i.toNat * 3)).add 1) = some (.int .i64 x3) ∧ (
  iteB (decide (temperature ≥ x3)) (
  ∃ x4 : Sl, rd H2 (z.add 1) = some (.slice x4.p x4.n x4.c) ∧ (
  0 ≤ i ∧ i < (x4.n : Int) ∧ (unSome x4.p (fun a1 =>
  okRow H2 (a1.add (i.toNat * 1)) 1 ∧ (
  letH (wrs H2 (a1.add (i.toNat * 1)) [.bool true]) (fun H3 : Heap =>
  J_1 H3)))))) (
  ∃ x5 : Sl, rd H2 z = some (.slice x5.p x5.n x5.c) ∧ (
  0 ≤ i ∧ i < (x5.n : Int) ∧ (unSome x5.p (fun a2 =>
  ∃ x6 : Int, rd H2 ((a2.add (i.toNat * 3)).add 1) = some (.int .i64 x6) ∧ (
  ∃ x7 : Sl, rd H2 z = some (.slice x7.p x7.n x7.c) ∧ (
  0 ≤ i ∧ i < (x7.n : Int) ∧ (unSome x7.p (fun a3 =>
  ∃ x8 : Int, rd H2 ((a3.add (i.toNat * 3)).add 2) = some (.int .i64 x8) ∧ (
  iteB (decide (temperature < (IntKind.i64.wrap (x6 - x8)))) (
  ∃ x9 : Sl, rd H2 (z.add 1) = some (.slice x9.p x9.n x9.c) ∧ (
  0 ≤ i ∧ i < (x9.n : Int) ∧ (unSome x9.p (fun a4 =>
  okRow H2 (a4.add (i.toNat * 1)) 1 ∧ (
  letH (wrs H2 (a4.add (i.toNat * 1)) [.bool false]) (fun H4 : Heap =>
  J_1 H4)))))) (
  J_1 H2))))))))))))))) ∧ (∀ H5 : Heap, J_1 H5 → F_ref39_Zone_Update_k2 z I_ M_ passive critical i H2 H5)) (
  ∃ J_3 : Heap → Prop, (
  iteB passive (
  ∃ x18 : Int, rd H2 (z.add 3) = some (.int .i64 x18) ∧ (
  ∃ x19 : Int, rd H2 (z.add 2) = some (.int .i64 x19) ∧ (
  okRow H2 (z.add 3) 1 ∧ (
  letH (wrs H2 (z.add 3) [.int .i64 (if x19 < (IntKind.i64.wrap (x18 + (1 : Int))) then x19 else (IntKind.i64.wrap (x18 + (1 : Int))))]) (fun H7 : Heap =>
  J_3 H7))))) (
  ∃ x20 : Int, rd H2 (z.add 3) = some (.int .i64 x20) ∧ (
  okRow H2 (z.add 3) 1 ∧ (
  letH (wrs H2 (z.add 3) [.int .i64 (if (0 : Int) > (IntKind.i64.wrap (x20 - (1 : Int))) then (0 : Int) else (IntKind.i64.wrap (x20 - (1 : Int))))]) (fun H8 : Heap =>
  J_3 H8))))) ∧ (∀ H9 : Heap, J_3 H9 → F_ref39_Zone_Update_k3 R z critical H9)))

def F_ref39_Zone_Update_k5 (R : Value → Heap → Prop) (z : Addr) (temperature : Int) (x : Bool) (H1 : Heap) : Prop :=
  iteB x (
  R (.tuple #[.int .i64 (0 : Int), .bool false, .int .i64 (1 : Int)]) H1) (
  ∃ I_ : Bool → Bool → Int → Heap → Prop, ∃ M_ : Bool → Bool → Int → Heap → Nat, I_ false false (0 : Int) H1 ∧ (∀ passive : Bool, ∀ critical : Bool, ∀ i : Int, ∀ H2 : Heap, I_ passive critical i H2 → F_ref39_Zone_Update_r4 R z temperature I_ M_ passive critical i H2))

def F_ref39_Zone_Update (R : Value → Heap → Prop) (z : Addr) (temperature : Int) (H : Heap) : Prop :=
  ∃ J_ : Bool → Heap → Prop, (
  iteB (decide (temperature < (-134217728 : Int))) (
  J_ true H) (
  J_ (decide (temperature > (134217728 : Int))) H)) ∧ (∀ x : Bool, ∀ H1 : Heap, J_ x H1 → F_ref39_Zone_Update_k5 R z temperature x H1)

theorem F_ref39_Zone_Update_eq (R : Value → Heap → Prop) (z : Addr) (temperature : Int) (H : Heap) : wpF Try.prog Try.f29 [(7, .bool false), (8, .bool false), (9, .int .i64 0), (15, .bool false)] [(2, [15], [0, 1]), (11, [], [0, 1, 7, 8, 9]), (12, [7], [0, 1, 8, 9]), (16, [], [0, 8])] [(5, [7, 8, 9], [0, 1])] [18] [.pointer (some z), .int .i64 temperature] H R = F_ref39_Zone_Update R z temperature H := by kernel_rfl

theorem F_ref39_Zone_Update_ok {R : Value → Heap → Prop} (z : Addr) (temperature : Int) {H : Heap} (h : F_ref39_Zone_Update R z temperature H) : CallsH Try.prog n_ref39_Zone_Update #[.pointer (some z), .int .i64 temperature] H R :=
  wpF_ok Try.func29 (F_ref39_Zone_Update_eq R z temperature H) h

/-! ### 30: (*platformfw/thermal.Zone).Level -/

def F_thermal_Zone_Level (R : Value → Heap → Prop) (z : Addr) (H : Heap) : Prop :=
  ∃ x : Int, rd H (z.add 3) = some (.int .i64 x) ∧ (
  R (.int .i64 x) H)

theorem F_thermal_Zone_Level_eq (R : Value → Heap → Prop) (z : Addr) (H : Heap) : wpF Try.prog Try.f30 [] [] [] [18] [.pointer (some z)] H R = F_thermal_Zone_Level R z H := by kernel_rfl

theorem F_thermal_Zone_Level_ok {R : Value → Heap → Prop} (z : Addr) {H : Heap} (h : F_thermal_Zone_Level R z H) : CallsH Try.prog n_thermal_Zone_Level #[.pointer (some z)] H R :=
  wpF_ok Try.func30 (F_thermal_Zone_Level_eq R z H) h

/-! ### 31: (*platformfw/platformfwref39.Zone).Level -/

def F_ref39_Zone_Level (R : Value → Heap → Prop) (z : Addr) (H : Heap) : Prop :=
  ∃ x : Int, rd H (z.add 3) = some (.int .i64 x) ∧ (
  R (.int .i64 x) H)

theorem F_ref39_Zone_Level_eq (R : Value → Heap → Prop) (z : Addr) (H : Heap) : wpF Try.prog Try.f31 [] [] [] [18] [.pointer (some z)] H R = F_ref39_Zone_Level R z H := by kernel_rfl

theorem F_ref39_Zone_Level_ok {R : Value → Heap → Prop} (z : Addr) {H : Heap} (h : F_ref39_Zone_Level R z H) : CallsH Try.prog n_ref39_Zone_Level #[.pointer (some z)] H R :=
  wpF_ok Try.func31 (F_ref39_Zone_Level_eq R z H) h

/-! ### 32: platformfw/platformfwhelp.Equal[bool] -/

def F_help_Equal_bool_r1 (R : Value → Heap → Prop) (a : Sl) (b : Sl) (I_ : Int → Heap → Prop) (M_ : Int → Heap → Nat) (i : Int) (H1 : Heap) : Prop :=
  iteB (decide (i < (a.n : Int))) (
  0 ≤ i ∧ i < (a.n : Int) ∧ (unSome a.p (fun a1 =>
  ∃ x : Bool, rd H1 (a1.add (i.toNat * 1)) = some (.bool x) ∧ (
  0 ≤ i ∧ i < (b.n : Int) ∧ (unSome b.p (fun a2 =>
  ∃ x1 : Bool, rd H1 (a2.add (i.toNat * 1)) = some (.bool x1) ∧ (
  iteB (!(x == x1)) (
  R (.bool false) H1) (
  letV (IntKind.i64.wrap (i + (1 : Int))) (fun i1 : Int =>
  I_ i1 H1 ∧ M_ i1 H1 < M_ i H1))))))))) (
  R (.bool true) H1)

def F_help_Equal_bool (R : Value → Heap → Prop) (a : Sl) (b : Sl) (H : Heap) : Prop :=
  iteB ((a.n : Int) != (b.n : Int)) (
  R (.bool false) H) (
  ∃ I_ : Int → Heap → Prop, ∃ M_ : Int → Heap → Nat, I_ (0 : Int) H ∧ (∀ i : Int, ∀ H1 : Heap, I_ i H1 → F_help_Equal_bool_r1 R a b I_ M_ i H1))

theorem F_help_Equal_bool_eq (R : Value → Heap → Prop) (a : Sl) (b : Sl) (H : Heap) : wpF Try.prog Try.f32 [(5, .int .i64 0)] [] [(4, [5], [0, 1])] [18] [.slice a.p a.n a.c, .slice b.p b.n b.c] H R = F_help_Equal_bool R a b H := by kernel_rfl

theorem F_help_Equal_bool_ok {R : Value → Heap → Prop} (a : Sl) (b : Sl) {H : Heap} (h : F_help_Equal_bool R a b H) : CallsH Try.prog n_help_Equal_bool #[.slice a.p a.n a.c, .slice b.p b.n b.c] H R :=
  wpF_ok Try.func32 (F_help_Equal_bool_eq R a b H) h

/-! ### 33: (*platformfw/thermal.Zone).Active -/

def F_thermal_Zone_Active (R : Value → Heap → Prop) (z : Addr) (H : Heap) : Prop :=
  ∃ x : Sl, rd H (z.add 1) = some (.slice x.p x.n x.c) ∧ (
  CallsH Try.prog n_slices_Clone_sl_bool_bool #[.slice x.p x.n x.c] H (fun v H1 =>
  ∃ x1 : Sl, v = .slice x1.p x1.n x1.c ∧ (
  R (.slice x1.p x1.n x1.c) H1)))

theorem F_thermal_Zone_Active_eq (R : Value → Heap → Prop) (z : Addr) (H : Heap) : wpF Try.prog Try.f33 [] [] [] [18] [.pointer (some z)] H R = F_thermal_Zone_Active R z H := by kernel_rfl

theorem F_thermal_Zone_Active_ok {R : Value → Heap → Prop} (z : Addr) {H : Heap} (h : F_thermal_Zone_Active R z H) : CallsH Try.prog n_thermal_Zone_Active #[.pointer (some z)] H R :=
  wpF_ok Try.func33 (F_thermal_Zone_Active_eq R z H) h

/-! ### 34: (*platformfw/platformfwref39.Zone).Active -/

def F_ref39_Zone_Active (R : Value → Heap → Prop) (z : Addr) (H : Heap) : Prop :=
  letH (H.push (.cells #[] t_bool (0, 0))) (fun H1 : Heap =>
  ∃ x : Sl, rd H1 (z.add 1) = some (.slice x.p x.n x.c) ∧ (
  runH Try.prog (Builtin.append_ #[t_sl_bool, t_sl_bool] t_sl_bool #[.slice (some (⟨H.size, 0, none⟩ : Addr)) 0 0, .slice x.p x.n x.c]) H1 (fun v H2 =>
  ∃ x1 : Sl, v = .slice x1.p x1.n x1.c ∧ (
  R (.slice x1.p x1.n x1.c) H2))))

theorem F_ref39_Zone_Active_eq (R : Value → Heap → Prop) (z : Addr) (H : Heap) : wpF Try.prog Try.f34 [] [] [] [18] [.pointer (some z)] H R = F_ref39_Zone_Active R z H := by kernel_rfl

theorem F_ref39_Zone_Active_ok {R : Value → Heap → Prop} (z : Addr) {H : Heap} (h : F_ref39_Zone_Active R z H) : CallsH Try.prog n_ref39_Zone_Active #[.pointer (some z)] H R :=
  wpF_ok Try.func34 (F_ref39_Zone_Active_eq R z H) h

/-! ### 35: platformfw/platformfwlaw39.want -/

def F_law39_want (R : Value → Heap → Prop) (a_0 : Int) (a_1 : Int) (a_2 : Int) (H : Heap) : Prop :=
  letH (H.push (.cells #[.int .u64 a_0, .int .u64 a_1, .int .u64 a_2] t_api_Actor (0, 0))) (fun H1 : Heap =>
  ∃ x : Int, rd H1 (⟨H.size, 0, none⟩ : Addr) = some (.int .u64 x) ∧ (
  ∃ x1 : Int, rd H1 ((⟨H.size, 0, none⟩ : Addr).add 1) = some (.int .u64 x1) ∧ (
  ∃ x2 : Int, rd H1 ((⟨H.size, 0, none⟩ : Addr).add 2) = some (.int .u64 x2) ∧ (
  letV (if x2 < (if x1 > x then x1 else x) then x2 else (if x1 > x then x1 else x)) (fun x3 : Int =>
  R (.int .u64 x3) H1)))))

theorem F_law39_want_eq (R : Value → Heap → Prop) (a_0 : Int) (a_1 : Int) (a_2 : Int) (H : Heap) : wpF Try.prog Try.f35 [] [] [] [18] [.agg #[.int .u64 a_0, .int .u64 a_1, .int .u64 a_2]] H R = F_law39_want R a_0 a_1 a_2 H := by kernel_rfl

theorem F_law39_want_ok {R : Value → Heap → Prop} (a_0 : Int) (a_1 : Int) (a_2 : Int) {H : Heap} (h : F_law39_want R a_0 a_1 a_2 H) : CallsH Try.prog n_law39_want #[.agg #[.int .u64 a_0, .int .u64 a_1, .int .u64 a_2]] H R :=
  wpF_ok Try.func35 (F_law39_want_eq R a_0 a_1 a_2 H) h

/-! ### 36: platformfw/thermal.Fair -/

def F_thermal_Fair_r1 (R : Value → Heap → Prop) (actors : Sl) (grants : Sl) (I_1 : Int → Heap → Prop) (M_1 : Int → Heap → Nat) (x14 : Int) (H7 : Heap) (I_2 : Int → Heap → Prop) (M_2 : Int → Heap → Nat) (x23 : Int) (H11 : Heap) : Prop :=
  iteB (decide (x23 < (actors.n : Int))) (
  0 ≤ x23 ∧ x23 < (actors.n : Int) ∧ (unSome actors.p (fun a6 =>
  ∃ x24 : Int, rd H11 (a6.add (x23.toNat * 3)) = some (.int .u64 x24) ∧ ∃ x25 : Int, rd H11 ((a6.add (x23.toNat * 3)).add 1) = some (.int .u64 x25) ∧ ∃ x26 : Int, rd H11 ((a6.add (x23.toNat * 3)).add 2) = some (.int .u64 x26) ∧ (
  letH (H11.push (.cells #[.int .u64 (0 : Int), .int .u64 (0 : Int), .int .u64 (0 : Int)] t_api_Actor (0, 0))) (fun H12 : Heap =>
  okRow H12 (⟨H11.size, 0, none⟩ : Addr) 3 ∧ (
  letH (wrs H12 (⟨H11.size, 0, none⟩ : Addr) [.int .u64 x24, .int .u64 x25, .int .u64 x26]) (fun H13 : Heap =>
  0 ≤ x23 ∧ x23 < (grants.n : Int) ∧ (unSome grants.p (fun a7 =>
  ∃ x27 : Int, rd H13 (a7.add (x23.toNat * 1)) = some (.int .u64 x27) ∧ (
  ∃ x28 : Int, rd H13 ((⟨H11.size, 0, none⟩ : Addr).add 1) = some (.int .u64 x28) ∧ (
  iteB (decide (x27 > x28)) (
  0 ≤ x23 ∧ x23 < (grants.n : Int) ∧ (unSome grants.p (fun a8 =>
  ∃ x29 : Int, rd H13 (a8.add (x23.toNat * 1)) = some (.int .u64 x29) ∧ (
  0 ≤ x14 ∧ x14 < (grants.n : Int) ∧ (unSome grants.p (fun a9 =>
  ∃ x30 : Int, rd H13 (a9.add (x14.toNat * 1)) = some (.int .u64 x30) ∧ (
  iteB (decide (x29 > (IntKind.u64.wrap (x30 + (1 : Int))))) (
  R (.bool false) H13) (
  I_2 (IntKind.i64.wrap (x23 + (1 : Int))) H13 ∧ M_2 (IntKind.i64.wrap (x23 + (1 : Int))) H13 < M_2 x23 H11)))))))) (
  I_2 (IntKind.i64.wrap (x23 + (1 : Int))) H13 ∧ M_2 (IntKind.i64.wrap (x23 + (1 : Int))) H13 < M_2 x23 H11)))))))))))) (
  I_1 (IntKind.i64.wrap (x14 + (1 : Int))) H11 ∧ M_1 (IntKind.i64.wrap (x14 + (1 : Int))) H11 < M_1 x14 H7)

def F_thermal_Fair_r2 (R : Value → Heap → Prop) (actors : Sl) (grants : Sl) (I_1 : Int → Heap → Prop) (M_1 : Int → Heap → Nat) (x14 : Int) (H7 : Heap) : Prop :=
  iteB (decide (x14 < (actors.n : Int))) (
  0 ≤ x14 ∧ x14 < (actors.n : Int) ∧ (unSome actors.p (fun a4 =>
  ∃ x15 : Int, rd H7 (a4.add (x14.toNat * 3)) = some (.int .u64 x15) ∧ ∃ x16 : Int, rd H7 ((a4.add (x14.toNat * 3)).add 1) = some (.int .u64 x16) ∧ ∃ x17 : Int, rd H7 ((a4.add (x14.toNat * 3)).add 2) = some (.int .u64 x17) ∧ (
  letH (H7.push (.cells #[.int .u64 (0 : Int), .int .u64 (0 : Int), .int .u64 (0 : Int)] t_api_Actor (0, 0))) (fun H8 : Heap =>
  okRow H8 (⟨H7.size, 0, none⟩ : Addr) 3 ∧ (
  letH (wrs H8 (⟨H7.size, 0, none⟩ : Addr) [.int .u64 x15, .int .u64 x16, .int .u64 x17]) (fun H9 : Heap =>
  0 ≤ x14 ∧ x14 < (grants.n : Int) ∧ (unSome grants.p (fun a5 =>
  ∃ x18 : Int, rd H9 (a5.add (x14.toNat * 1)) = some (.int .u64 x18) ∧ (
  ∃ x19 : Int, rd H9 (⟨H7.size, 0, none⟩ : Addr) = some (.int .u64 x19) ∧ ∃ x20 : Int, rd H9 ((⟨H7.size, 0, none⟩ : Addr).add 1) = some (.int .u64 x20) ∧ ∃ x21 : Int, rd H9 ((⟨H7.size, 0, none⟩ : Addr).add 2) = some (.int .u64 x21) ∧ (
  CallsH Try.prog n_thermal_want #[.agg #[.int .u64 x19, .int .u64 x20, .int .u64 x21]] H9 (fun v3 H10 =>
  ∃ x22 : Int, v3 = .int .u64 x22 ∧ (
  Ext H9 H10 ∧ (
  iteB (decide (x18 ≥ x22)) (
  I_1 (IntKind.i64.wrap (x14 + (1 : Int))) H10 ∧ M_1 (IntKind.i64.wrap (x14 + (1 : Int))) H10 < M_1 x14 H7) (
  ∃ I_2 : Int → Heap → Prop, ∃ M_2 : Int → Heap → Nat, I_2 (0 : Int) H10 ∧ (∀ x23 : Int, ∀ H11 : Heap, I_2 x23 H11 → F_thermal_Fair_r1 R actors grants I_1 M_1 x14 H7 I_2 M_2 x23 H11)))))))))))))))) (
  R (.bool true) H7)

def F_thermal_Fair_r3 (R : Value → Heap → Prop) (budget : Int) (actors : Sl) (grants : Sl) (I_ : Int → Int → Heap → Prop) (M_ : Int → Int → Heap → Nat) (sum : Int) (x1 : Int) (H2 : Heap) : Prop :=
  iteB (decide (x1 < (actors.n : Int))) (
  0 ≤ x1 ∧ x1 < (actors.n : Int) ∧ (unSome actors.p (fun a =>
  ∃ x2 : Int, rd H2 (a.add (x1.toNat * 3)) = some (.int .u64 x2) ∧ ∃ x3 : Int, rd H2 ((a.add (x1.toNat * 3)).add 1) = some (.int .u64 x3) ∧ ∃ x4 : Int, rd H2 ((a.add (x1.toNat * 3)).add 2) = some (.int .u64 x4) ∧ (
  letH (H2.push (.cells #[.int .u64 (0 : Int), .int .u64 (0 : Int), .int .u64 (0 : Int)] t_api_Actor (0, 0))) (fun H3 : Heap =>
  okRow H3 (⟨H2.size, 0, none⟩ : Addr) 3 ∧ (
  letH (wrs H3 (⟨H2.size, 0, none⟩ : Addr) [.int .u64 x2, .int .u64 x3, .int .u64 x4]) (fun H4 : Heap =>
  0 ≤ x1 ∧ x1 < (grants.n : Int) ∧ (unSome grants.p (fun a1 =>
  ∃ x5 : Int, rd H4 (a1.add (x1.toNat * 1)) = some (.int .u64 x5) ∧ (
  ∃ x6 : Int, rd H4 ((⟨H2.size, 0, none⟩ : Addr).add 1) = some (.int .u64 x6) ∧ (
  iteB (decide (x5 < x6)) (
  R (.bool false) H4) (
  0 ≤ x1 ∧ x1 < (grants.n : Int) ∧ (unSome grants.p (fun a2 =>
  ∃ x7 : Int, rd H4 (a2.add (x1.toNat * 1)) = some (.int .u64 x7) ∧ (
  ∃ x8 : Int, rd H4 (⟨H2.size, 0, none⟩ : Addr) = some (.int .u64 x8) ∧ ∃ x9 : Int, rd H4 ((⟨H2.size, 0, none⟩ : Addr).add 1) = some (.int .u64 x9) ∧ ∃ x10 : Int, rd H4 ((⟨H2.size, 0, none⟩ : Addr).add 2) = some (.int .u64 x10) ∧ (
  CallsH Try.prog n_thermal_want #[.agg #[.int .u64 x8, .int .u64 x9, .int .u64 x10]] H4 (fun v1 H5 =>
  ∃ x11 : Int, v1 = .int .u64 x11 ∧ (
  Ext H4 H5 ∧ (
  iteB (decide (x7 > x11)) (
  R (.bool false) H5) (
  0 ≤ x1 ∧ x1 < (grants.n : Int) ∧ (unSome grants.p (fun a3 =>
  ∃ x12 : Int, rd H5 (a3.add (x1.toNat * 1)) = some (.int .u64 x12) ∧ (
  letV (IntKind.u64.wrap (sum + x12)) (fun sum1 : Int =>
  I_ sum1 (IntKind.i64.wrap (x1 + (1 : Int))) H5 ∧ M_ sum1 (IntKind.i64.wrap (x1 + (1 : Int))) H5 < M_ sum x1 H2)))))))))))))))))))))))) (
  CallsH Try.prog n_thermal_total #[.slice actors.p actors.n actors.c, .int .u64 (4294967296 : Int)] H2 (fun v2 H6 =>
  ∃ x13 : Int, v2 = .int .u64 x13 ∧ (
  iteB (sum != (if x13 < budget then x13 else budget)) (
  R (.bool false) H6) (
  ∃ I_1 : Int → Heap → Prop, ∃ M_1 : Int → Heap → Nat, I_1 (0 : Int) H6 ∧ (∀ x14 : Int, ∀ H7 : Heap, I_1 x14 H7 → F_thermal_Fair_r2 R actors grants I_1 M_1 x14 H7)))))

def F_thermal_Fair (R : Value → Heap → Prop) (budget : Int) (actors : Sl) (grants : Sl) (H : Heap) : Prop :=
  CallsH Try.prog n_thermal_validActors #[.slice actors.p actors.n actors.c] H (fun v H1 =>
  ∃ x : Bool, v = .bool x ∧ (
  iteB (!x) (
  R (.bool false) H1) (
  iteB ((grants.n : Int) != (actors.n : Int)) (
  R (.bool false) H1) (
  ∃ I_ : Int → Int → Heap → Prop, ∃ M_ : Int → Int → Heap → Nat, I_ (0 : Int) (0 : Int) H1 ∧ (∀ sum : Int, ∀ x1 : Int, ∀ H2 : Heap, I_ sum x1 H2 → F_thermal_Fair_r3 R budget actors grants I_ M_ sum x1 H2)))))

theorem F_thermal_Fair_eq (R : Value → Heap → Prop) (budget : Int) (actors : Sl) (grants : Sl) (H : Heap) : wpF Try.prog Try.f36 [(7, .int .u64 0), (26, .int .i64 0), (62, .int .i64 0), (76, .int .i64 0)] [] [(5, [7, 26], [0, 1, 2, 24, 25]), (14, [62], [1, 2, 60, 61]), (18, [76], [1, 2, 10, 60, 61, 62, 74, 75])] [18] [.int .u64 budget, .slice actors.p actors.n actors.c, .slice grants.p grants.n grants.c] H R = F_thermal_Fair R budget actors grants H := by kernel_rfl

theorem F_thermal_Fair_ok {R : Value → Heap → Prop} (budget : Int) (actors : Sl) (grants : Sl) {H : Heap} (h : F_thermal_Fair R budget actors grants H) : CallsH Try.prog n_thermal_Fair #[.int .u64 budget, .slice actors.p actors.n actors.c, .slice grants.p grants.n grants.c] H R :=
  wpF_ok Try.func36 (F_thermal_Fair_eq R budget actors grants H) h

/-! ### 37: platformfw/platformfwref39.Fair -/

def F_ref39_Fair_r1 (R : Value → Heap → Prop) (actors : Sl) (grants : Sl) (I_1 : Int → Heap → Prop) (M_1 : Int → Heap → Nat) (i2 : Int) (H5 : Heap) (I_2 : Int → Heap → Prop) (M_2 : Int → Heap → Nat) (k : Int) (H6 : Heap) : Prop :=
  iteB (decide (k < (actors.n : Int))) (
  0 ≤ i2 ∧ i2 < (grants.n : Int) ∧ (unSome grants.p (fun a5 =>
  ∃ x11 : Int, rd H6 (a5.add (i2.toNat * 1)) = some (.int .u64 x11) ∧ (
  0 ≤ i2 ∧ i2 < (actors.n : Int) ∧ (unSome actors.p (fun a6 =>
  ∃ x12 : Int, rd H6 (a6.add (i2.toNat * 3)) = some (.int .u64 x12) ∧ ∃ x13 : Int, rd H6 ((a6.add (i2.toNat * 3)).add 1) = some (.int .u64 x13) ∧ ∃ x14 : Int, rd H6 ((a6.add (i2.toNat * 3)).add 2) = some (.int .u64 x14) ∧ (
  CallsH Try.prog n_ref39_want #[.agg #[.int .u64 x12, .int .u64 x13, .int .u64 x14]] H6 (fun v3 H7 =>
  ∃ x15 : Int, v3 = .int .u64 x15 ∧ (
  Ext H6 H7 ∧ (
  iteB (decide (x11 < x15)) (
  0 ≤ k ∧ k < (grants.n : Int) ∧ (unSome grants.p (fun a7 =>
  ∃ x16 : Int, rd H7 (a7.add (k.toNat * 1)) = some (.int .u64 x16) ∧ (
  0 ≤ k ∧ k < (actors.n : Int) ∧ (unSome actors.p (fun a8 =>
  ∃ x17 : Int, rd H7 ((a8.add (k.toNat * 3)).add 1) = some (.int .u64 x17) ∧ (
  iteB (decide (x16 > x17)) (
  0 ≤ k ∧ k < (grants.n : Int) ∧ (unSome grants.p (fun a9 =>
  ∃ x18 : Int, rd H7 (a9.add (k.toNat * 1)) = some (.int .u64 x18) ∧ (
  0 ≤ i2 ∧ i2 < (grants.n : Int) ∧ (unSome grants.p (fun a10 =>
  ∃ x19 : Int, rd H7 (a10.add (i2.toNat * 1)) = some (.int .u64 x19) ∧ (
  iteB (decide (x18 > (IntKind.u64.wrap (x19 + (1 : Int))))) (
  R (.bool false) H7) (
  letV (IntKind.i64.wrap (k + (1 : Int))) (fun k1 : Int =>
  I_2 k1 H7 ∧ M_2 k1 H7 < M_2 k H6))))))))) (
  letV (IntKind.i64.wrap (k + (1 : Int))) (fun k2 : Int =>
  I_2 k2 H7 ∧ M_2 k2 H7 < M_2 k H6))))))))) (
  letV (IntKind.i64.wrap (k + (1 : Int))) (fun k3 : Int =>
  I_2 k3 H7 ∧ M_2 k3 H7 < M_2 k H6)))))))))))) (
  letV (IntKind.i64.wrap (i2 + (1 : Int))) (fun i3 : Int =>
  I_1 i3 H6 ∧ M_1 i3 H6 < M_1 i2 H5))

def F_ref39_Fair_r2 (R : Value → Heap → Prop) (actors : Sl) (grants : Sl) (I_1 : Int → Heap → Prop) (M_1 : Int → Heap → Nat) (i2 : Int) (H5 : Heap) : Prop :=
  iteB (decide (i2 < (actors.n : Int))) (
  ∃ I_2 : Int → Heap → Prop, ∃ M_2 : Int → Heap → Nat, I_2 (0 : Int) H5 ∧ (∀ k : Int, ∀ H6 : Heap, I_2 k H6 → F_ref39_Fair_r1 R actors grants I_1 M_1 i2 H5 I_2 M_2 k H6)) (
  R (.bool true) H5)

def F_ref39_Fair_r3 (R : Value → Heap → Prop) (budget : Int) (actors : Sl) (grants : Sl) (I_ : Int → Int → Heap → Prop) (M_ : Int → Int → Heap → Nat) (sum : Int) (i : Int) (H2 : Heap) : Prop :=
  iteB (decide (i < (actors.n : Int))) (
  0 ≤ i ∧ i < (grants.n : Int) ∧ (unSome grants.p (fun a =>
  ∃ x1 : Int, rd H2 (a.add (i.toNat * 1)) = some (.int .u64 x1) ∧ (
  0 ≤ i ∧ i < (actors.n : Int) ∧ (unSome actors.p (fun a1 =>
  ∃ x2 : Int, rd H2 ((a1.add (i.toNat * 3)).add 1) = some (.int .u64 x2) ∧ (
  iteB (decide (x1 < x2)) (
  R (.bool false) H2) (
  0 ≤ i ∧ i < (grants.n : Int) ∧ (unSome grants.p (fun a2 =>
  ∃ x3 : Int, rd H2 (a2.add (i.toNat * 1)) = some (.int .u64 x3) ∧ (
  0 ≤ i ∧ i < (actors.n : Int) ∧ (unSome actors.p (fun a3 =>
  ∃ x4 : Int, rd H2 (a3.add (i.toNat * 3)) = some (.int .u64 x4) ∧ ∃ x5 : Int, rd H2 ((a3.add (i.toNat * 3)).add 1) = some (.int .u64 x5) ∧ ∃ x6 : Int, rd H2 ((a3.add (i.toNat * 3)).add 2) = some (.int .u64 x6) ∧ (
  CallsH Try.prog n_ref39_want #[.agg #[.int .u64 x4, .int .u64 x5, .int .u64 x6]] H2 (fun v1 H3 =>
  ∃ x7 : Int, v1 = .int .u64 x7 ∧ (
  Ext H2 H3 ∧ (
  iteB (decide (x3 > x7)) (
  R (.bool false) H3) (
  0 ≤ i ∧ i < (grants.n : Int) ∧ (unSome grants.p (fun a4 =>
  ∃ x8 : Int, rd H3 (a4.add (i.toNat * 1)) = some (.int .u64 x8) ∧ (
  letV (IntKind.u64.wrap (sum + x8)) (fun sum1 : Int =>
  letV (IntKind.i64.wrap (i + (1 : Int))) (fun i1 : Int =>
  I_ sum1 i1 H3 ∧ M_ sum1 i1 H3 < M_ sum i H2))))))))))))))))))))))) (
  CallsH Try.prog n_ref39_at #[.slice actors.p actors.n actors.c, .int .u64 (4294967296 : Int)] H2 (fun v2 H4 =>
  ∃ x9 : Sl, ∃ x10 : Int, v2 = .tuple #[.slice x9.p x9.n x9.c, .int .u64 x10] ∧ (
  iteB (sum != (if x10 < budget then x10 else budget)) (
  R (.bool false) H4) (
  ∃ I_1 : Int → Heap → Prop, ∃ M_1 : Int → Heap → Nat, I_1 (0 : Int) H4 ∧ (∀ i2 : Int, ∀ H5 : Heap, I_1 i2 H5 → F_ref39_Fair_r2 R actors grants I_1 M_1 i2 H5)))))

def F_ref39_Fair (R : Value → Heap → Prop) (budget : Int) (actors : Sl) (grants : Sl) (H : Heap) : Prop :=
  CallsH Try.prog n_ref39_valid #[.slice actors.p actors.n actors.c] H (fun v H1 =>
  ∃ x : Bool, v = .bool x ∧ (
  iteB (!x) (
  R (.bool false) H1) (
  iteB ((grants.n : Int) != (actors.n : Int)) (
  R (.bool false) H1) (
  ∃ I_ : Int → Int → Heap → Prop, ∃ M_ : Int → Int → Heap → Nat, I_ (0 : Int) (0 : Int) H1 ∧ (∀ sum : Int, ∀ i : Int, ∀ H2 : Heap, I_ sum i H2 → F_ref39_Fair_r3 R budget actors grants I_ M_ sum i H2)))))

theorem F_ref39_Fair_eq (R : Value → Heap → Prop) (budget : Int) (actors : Sl) (grants : Sl) (H : Heap) : wpF Try.prog Try.f37 [(7, .int .u64 0), (8, .int .i64 0), (11, .int .i64 0), (12, .int .i64 0)] [] [(5, [7, 8], [0, 1, 2]), (14, [11], [1, 2]), (17, [12], [1, 2, 11])] [18] [.int .u64 budget, .slice actors.p actors.n actors.c, .slice grants.p grants.n grants.c] H R = F_ref39_Fair R budget actors grants H := by kernel_rfl

theorem F_ref39_Fair_ok {R : Value → Heap → Prop} (budget : Int) (actors : Sl) (grants : Sl) {H : Heap} (h : F_ref39_Fair R budget actors grants H) : CallsH Try.prog n_ref39_Fair #[.int .u64 budget, .slice actors.p actors.n actors.c, .slice grants.p grants.n grants.c] H R :=
  wpF_ok Try.func37 (F_ref39_Fair_eq R budget actors grants H) h

/-! ### 38: platformfw/platformfwlaw36.Table -/

def F_law36_Table_r1 (R : Value → Heap → Prop) (raw : Sl) (I_ : Sl → Int → Heap → Prop) (M_ : Sl → Int → Heap → Nat) (out : Sl) (i : Int) (H4 : Heap) : Prop :=
  iteB (decide (i < (raw.n : Int))) (
  iteB (decide (i < (8 : Int))) (
  0 ≤ (IntKind.i64.wrap (i - (1 : Int))) ∧ (IntKind.i64.wrap (i - (1 : Int))) < (out.n : Int) ∧ (unSome out.p (fun a3 =>
  ∃ x3 : Int, rd H4 (a3.add ((IntKind.i64.wrap (i - (1 : Int))).toNat * 3)) = some (.int .u64 x3) ∧ ∃ x4 : Int, rd H4 ((a3.add ((IntKind.i64.wrap (i - (1 : Int))).toNat * 3)).add 1) = some (.int .u64 x4) ∧ ∃ x5 : Int, rd H4 ((a3.add ((IntKind.i64.wrap (i - (1 : Int))).toNat * 3)).add 2) = some (.int .u64 x5) ∧ (
  letH (H4.push (.cells #[.int .u64 (0 : Int), .int .u64 (0 : Int), .int .u64 (0 : Int)] t_api_OperatingPoint (0, 0))) (fun H5 : Heap =>
  okRow H5 (⟨H4.size, 0, none⟩ : Addr) 3 ∧ (
  letH (wrs H5 (⟨H4.size, 0, none⟩ : Addr) [.int .u64 x3, .int .u64 x4, .int .u64 x5]) (fun H6 : Heap =>
  ∃ x6 : Int, rd H6 (⟨H4.size, 0, none⟩ : Addr) = some (.int .u64 x6) ∧ (
  0 ≤ i ∧ i < (raw.n : Int) ∧ (unSome raw.p (fun a4 =>
  ∃ x7 : Int, rd H6 (a4.add (i.toNat * 3)) = some (.int .u64 x7) ∧ (
  okRow H6 (⟨H4.size, 0, none⟩ : Addr) 1 ∧ (
  letH (wrs H6 (⟨H4.size, 0, none⟩ : Addr) [.int .u64 (IntKind.u64.wrap ((IntKind.u64.wrap (x6 + (1 : Int))) + (x7.tmod (100 : Int))))]) (fun H7 : Heap =>
  ∃ x8 : Int, rd H7 ((⟨H4.size, 0, none⟩ : Addr).add 1) = some (.int .u64 x8) ∧ (
  0 ≤ i ∧ i < (raw.n : Int) ∧ (unSome raw.p (fun a5 =>
  ∃ x9 : Int, rd H7 ((a5.add (i.toNat * 3)).add 1) = some (.int .u64 x9) ∧ (
  okRow H7 ((⟨H4.size, 0, none⟩ : Addr).add 1) 1 ∧ (
  letH (wrs H7 ((⟨H4.size, 0, none⟩ : Addr).add 1) [.int .u64 (IntKind.u64.wrap (x8 + (x9.tmod (4 : Int))))]) (fun H8 : Heap =>
  ∃ x10 : Int, rd H8 ((⟨H4.size, 0, none⟩ : Addr).add 2) = some (.int .u64 x10) ∧ (
  0 ≤ i ∧ i < (raw.n : Int) ∧ (unSome raw.p (fun a6 =>
  ∃ x11 : Int, rd H8 ((a6.add (i.toNat * 3)).add 2) = some (.int .u64 x11) ∧ (
  okRow H8 ((⟨H4.size, 0, none⟩ : Addr).add 2) 1 ∧ (
  letH (wrs H8 ((⟨H4.size, 0, none⟩ : Addr).add 2) [.int .u64 (IntKind.u64.wrap (x10 + (x11.tmod (30 : Int))))]) (fun H9 : Heap =>
  ∃ x12 : Int, rd H9 (⟨H4.size, 0, none⟩ : Addr) = some (.int .u64 x12) ∧ ∃ x13 : Int, rd H9 ((⟨H4.size, 0, none⟩ : Addr).add 1) = some (.int .u64 x13) ∧ ∃ x14 : Int, rd H9 ((⟨H4.size, 0, none⟩ : Addr).add 2) = some (.int .u64 x14) ∧ (
  letH (H9.push (.cells #[.int .u64 x12, .int .u64 x13, .int .u64 x14] t_api_OperatingPoint (0, 0))) (fun H10 : Heap =>
  runH Try.prog (Builtin.append_ #[t_sl_api_OperatingPoint, t_sl_api_OperatingPoint] t_sl_api_OperatingPoint #[.slice out.p out.n out.c, .slice (some (⟨H9.size, 0, none⟩ : Addr)) 1 1]) H10 (fun v H11 =>
  ∃ out1 : Sl, v = .slice out1.p out1.n out1.c ∧ (
  letV (IntKind.i64.wrap (i + (1 : Int))) (fun i1 : Int =>
  I_ out1 i1 H11 ∧ M_ out1 i1 H11 < M_ out i H4)))))))))))))))))))))))))))))) (
  R (.slice out.p out.n out.c) H4)) (
  R (.slice out.p out.n out.c) H4)

def F_law36_Table_k2 (R : Value → Heap → Prop) (H : Heap) (raw : Sl) (H3 : Heap) : Prop :=
  ∃ I_ : Sl → Int → Heap → Prop, ∃ M_ : Sl → Int → Heap → Nat, I_ (Sl.mk (some (⟨H.size, 0, none⟩ : Addr)) 1 1) (1 : Int) H3 ∧ (∀ out : Sl, ∀ i : Int, ∀ H4 : Heap, I_ out i H4 → F_law36_Table_r1 R raw I_ M_ out i H4)

def F_law36_Table (R : Value → Heap → Prop) (raw : Sl) (H : Heap) : Prop :=
  letH (H.push (.cells #[.int .u64 (1 : Int), .int .u64 (5 : Int), .int .u64 (0 : Int)] t_api_OperatingPoint (0, 0))) (fun H1 : Heap =>
  ∃ J_ : Heap → Prop, (
  iteB (decide ((raw.n : Int) > (0 : Int))) (
  0 ≤ (0 : Int) ∧ (0 : Int) < (raw.n : Int) ∧ (unSome raw.p (fun a =>
  ∃ x : Int, rd H1 (a.add ((0 : Int).toNat * 3)) = some (.int .u64 x) ∧ (
  0 ≤ (0 : Int) ∧ (0 : Int) < (raw.n : Int) ∧ (unSome raw.p (fun a1 =>
  ∃ x1 : Int, rd H1 ((a1.add ((0 : Int).toNat * 3)).add 1) = some (.int .u64 x1) ∧ (
  0 ≤ (0 : Int) ∧ (0 : Int) < (raw.n : Int) ∧ (unSome raw.p (fun a2 =>
  ∃ x2 : Int, rd H1 ((a2.add ((0 : Int).toNat * 3)).add 2) = some (.int .u64 x2) ∧ (
  0 ≤ (0 : Int) ∧ (0 : Int) < (1 : Int) ∧ (okRow H1 ((⟨H.size, 0, none⟩ : Addr).add ((0 : Int).toNat * 3)) 3 ∧ (
  letH (wrs H1 ((⟨H.size, 0, none⟩ : Addr).add ((0 : Int).toNat * 3)) [.int .u64 (IntKind.u64.wrap ((1 : Int) + (x.tmod (100 : Int)))), .int .u64 (x1.tmod (100 : Int)), .int .u64 (x2.tmod (100 : Int))]) (fun H2 : Heap =>
  J_ H2))))))))))))) (
  J_ H1)) ∧ (∀ H3 : Heap, J_ H3 → F_law36_Table_k2 R H raw H3))

theorem F_law36_Table_eq (R : Value → Heap → Prop) (raw : Sl) (H : Heap) : wpF Try.prog Try.f38 [(3, .slice none 0 0), (4, .int .i64 0)] [(4, [], [0, 3])] [(5, [3, 4], [0])] [18] [.slice raw.p raw.n raw.c] H R = F_law36_Table R raw H := by kernel_rfl

theorem F_law36_Table_ok {R : Value → Heap → Prop} (raw : Sl) {H : Heap} (h : F_law36_Table R raw H) : CallsH Try.prog n_law36_Table #[.slice raw.p raw.n raw.c] H R :=
  wpF_ok Try.func38 (F_law36_Table_eq R raw H) h

/-! ### 39: platformfw/thermal.Throttle -/

def F_thermal_Throttle_r1 (R : Value → Heap → Prop) (table : Sl) (granted : Int) (I_ : Int → Int → Heap → Prop) (M_ : Int → Int → Heap → Nat) (chosen : Int) (x : Int) (H2 : Heap) : Prop :=
  iteB (decide (x < (table.n : Int))) (
  0 ≤ x ∧ x < (table.n : Int) ∧ (unSome table.p (fun a =>
  ∃ x1 : Int, rd H2 (a.add (x.toNat * 3)) = some (.int .u64 x1) ∧ ∃ x2 : Int, rd H2 ((a.add (x.toNat * 3)).add 1) = some (.int .u64 x2) ∧ ∃ x3 : Int, rd H2 ((a.add (x.toNat * 3)).add 2) = some (.int .u64 x3) ∧ (
  letH (H2.push (.cells #[.int .u64 (0 : Int), .int .u64 (0 : Int), .int .u64 (0 : Int)] t_api_OperatingPoint (0, 0))) (fun H3 : Heap =>
  okRow H3 (⟨H2.size, 0, none⟩ : Addr) 3 ∧ (
  letH (wrs H3 (⟨H2.size, 0, none⟩ : Addr) [.int .u64 x1, .int .u64 x2, .int .u64 x3]) (fun H4 : Heap =>
  ∃ x4 : Int, rd H4 ((⟨H2.size, 0, none⟩ : Addr).add 2) = some (.int .u64 x4) ∧ (
  iteB (decide (x4 ≤ granted)) (
  I_ x (IntKind.i64.wrap (x + (1 : Int))) H4 ∧ M_ x (IntKind.i64.wrap (x + (1 : Int))) H4 < M_ chosen x H2) (
  I_ chosen (IntKind.i64.wrap (x + (1 : Int))) H4 ∧ M_ chosen (IntKind.i64.wrap (x + (1 : Int))) H4 < M_ chosen x H2))))))))) (
  iteB (decide (chosen < (0 : Int))) (
  R (.tuple #[.int .i64 (0 : Int), .int .i64 (6 : Int)]) H2) (
  R (.tuple #[.int .i64 chosen, .int .i64 (0 : Int)]) H2))

def F_thermal_Throttle (R : Value → Heap → Prop) (table : Sl) (granted : Int) (H : Heap) : Prop :=
  CallsH Try.prog n_perf_Check #[.slice table.p table.n table.c] H (fun v H1 =>
  ∃ err : Int, v = .int .i64 err ∧ (
  iteB (err != (0 : Int)) (
  R (.tuple #[.int .i64 (0 : Int), .int .i64 err]) H1) (
  ∃ I_ : Int → Int → Heap → Prop, ∃ M_ : Int → Int → Heap → Nat, I_ (-1 : Int) (0 : Int) H1 ∧ (∀ chosen : Int, ∀ x : Int, ∀ H2 : Heap, I_ chosen x H2 → F_thermal_Throttle_r1 R table granted I_ M_ chosen x H2))))

theorem F_thermal_Throttle_eq (R : Value → Heap → Prop) (table : Sl) (granted : Int) (H : Heap) : wpF Try.prog Try.f39 [(7, .int .i64 0), (17, .int .i64 0)] [] [(6, [7, 17], [1, 15, 16])] [18] [.slice table.p table.n table.c, .int .u64 granted] H R = F_thermal_Throttle R table granted H := by kernel_rfl

theorem F_thermal_Throttle_ok {R : Value → Heap → Prop} (table : Sl) (granted : Int) {H : Heap} (h : F_thermal_Throttle R table granted H) : CallsH Try.prog n_thermal_Throttle #[.slice table.p table.n table.c, .int .u64 granted] H R :=
  wpF_ok Try.func39 (F_thermal_Throttle_eq R table granted H) h

/-! ### 40: platformfw/platformfwref39.Throttle -/

def F_ref39_Throttle_r1 (R : Value → Heap → Prop) (table : Sl) (granted : Int) (I_ : Int → Heap → Prop) (M_ : Int → Heap → Nat) (i1 : Int) (H2 : Heap) : Prop :=
  iteB (decide (i1 ≥ (0 : Int))) (
  0 ≤ i1 ∧ i1 < (table.n : Int) ∧ (unSome table.p (fun a =>
  ∃ x : Int, rd H2 ((a.add (i1.toNat * 3)).add 2) = some (.int .u64 x) ∧ (
  iteB (decide (x ≤ granted)) (
  R (.tuple #[.int .i64 i1, .int .i64 (0 : Int)]) H2) (
  letV (IntKind.i64.wrap (i1 - (1 : Int))) (fun i2 : Int =>
  I_ i2 H2 ∧ M_ i2 H2 < M_ i1 H2)))))) (
  R (.tuple #[.int .i64 (0 : Int), .int .i64 (6 : Int)]) H2)

def F_ref39_Throttle (R : Value → Heap → Prop) (table : Sl) (granted : Int) (H : Heap) : Prop :=
  CallsH Try.prog n_ref36_Check #[.slice table.p table.n table.c] H (fun v H1 =>
  ∃ e : Int, v = .int .i64 e ∧ (
  iteB (e != (0 : Int)) (
  R (.tuple #[.int .i64 (0 : Int), .int .i64 e]) H1) (
  letV (IntKind.i64.wrap ((table.n : Int) - (1 : Int))) (fun i : Int =>
  ∃ I_ : Int → Heap → Prop, ∃ M_ : Int → Heap → Nat, I_ i H1 ∧ (∀ i1 : Int, ∀ H2 : Heap, I_ i1 H2 → F_ref39_Throttle_r1 R table granted I_ M_ i1 H2)))))

theorem F_ref39_Throttle_eq (R : Value → Heap → Prop) (table : Sl) (granted : Int) (H : Heap) : wpF Try.prog Try.f40 [(7, .int .i64 0)] [] [(5, [7], [0, 1])] [18] [.slice table.p table.n table.c, .int .u64 granted] H R = F_ref39_Throttle R table granted H := by kernel_rfl

theorem F_ref39_Throttle_ok {R : Value → Heap → Prop} (table : Sl) (granted : Int) {H : Heap} (h : F_ref39_Throttle R table granted H) : CallsH Try.prog n_ref39_Throttle #[.slice table.p table.n table.c, .int .u64 granted] H R :=
  wpF_ok Try.func40 (F_ref39_Throttle_eq R table granted H) h

/-! ### 41: platformfw/platformfwlaw38.Some -/

def F_law38_Some_r1 (H2 : Heap) (I_1 : Int → Heap → Prop) (M_1 : Int → Heap → Nat) (i3 : Int) (H9 : Heap) (I_2 : Bool → Int → Heap → Prop) (M_2 : Bool → Int → Heap → Nat) (ok : Bool) (k : Int) (H12 : Heap) : Prop :=
  ∃ x14 : Sl, rd H12 ((⟨H2.size, 0, none⟩ : Addr).add 1) = some (.slice x14.p x14.n x14.c) ∧ (
  iteB (decide (k < (x14.n : Int))) (
  ∃ x15 : Sl, rd H12 ((⟨H2.size, 0, none⟩ : Addr).add 1) = some (.slice x15.p x15.n x15.c) ∧ (
  0 ≤ k ∧ k < (x15.n : Int) ∧ (unSome x15.p (fun a9 =>
  ∃ x16 : Int, rd H12 (a9.add (k.toNat * 3)) = some (.int .i64 x16) ∧ ∃ x17 : Int, rd H12 ((a9.add (k.toNat * 3)).add 1) = some (.int .i64 x17) ∧ ∃ x18 : Int, rd H12 ((a9.add (k.toNat * 3)).add 2) = some (.int .i64 x18) ∧ (
  letH (H12.push (.cells #[.int .i64 (0 : Int), .int .i64 (0 : Int), .int .i64 (0 : Int)] t_api_HeatLink (0, 0))) (fun H13 : Heap =>
  okRow H13 (⟨H12.size, 0, none⟩ : Addr) 3 ∧ (
  letH (wrs H13 (⟨H12.size, 0, none⟩ : Addr) [.int .i64 x16, .int .i64 x17, .int .i64 x18]) (fun H14 : Heap =>
  iteB ok (
  ∃ x19 : Int, rd H14 (⟨H12.size, 0, none⟩ : Addr) = some (.int .i64 x19) ∧ (
  ∃ x20 : Int, rd H14 (⟨H9.size, 0, none⟩ : Addr) = some (.int .i64 x20) ∧ (
  iteB (x19 == x20) (
  ∃ x21 : Int, rd H14 ((⟨H12.size, 0, none⟩ : Addr).add 1) = some (.int .i64 x21) ∧ (
  ∃ x22 : Int, rd H14 ((⟨H9.size, 0, none⟩ : Addr).add 1) = some (.int .i64 x22) ∧ (
  iteB (x21 == x22) (
  letV (IntKind.i64.wrap (k + (1 : Int))) (fun k1 : Int =>
  I_2 false k1 H14 ∧ M_2 false k1 H14 < M_2 ok k H12)) (
  ∃ x23 : Int, rd H14 (⟨H12.size, 0, none⟩ : Addr) = some (.int .i64 x23) ∧ (
  ∃ x24 : Int, rd H14 ((⟨H9.size, 0, none⟩ : Addr).add 1) = some (.int .i64 x24) ∧ (
  iteB (x23 == x24) (
  ∃ x25 : Int, rd H14 ((⟨H12.size, 0, none⟩ : Addr).add 1) = some (.int .i64 x25) ∧ (
  ∃ x26 : Int, rd H14 (⟨H9.size, 0, none⟩ : Addr) = some (.int .i64 x26) ∧ (
  letV (IntKind.i64.wrap (k + (1 : Int))) (fun k2 : Int =>
  I_2 (!(x25 == x26)) k2 H14 ∧ M_2 (!(x25 == x26)) k2 H14 < M_2 ok k H12)))) (
  letV (IntKind.i64.wrap (k + (1 : Int))) (fun k3 : Int =>
  I_2 true k3 H14 ∧ M_2 true k3 H14 < M_2 ok k H12)))))))) (
  ∃ x27 : Int, rd H14 (⟨H12.size, 0, none⟩ : Addr) = some (.int .i64 x27) ∧ (
  ∃ x28 : Int, rd H14 ((⟨H9.size, 0, none⟩ : Addr).add 1) = some (.int .i64 x28) ∧ (
  iteB (x27 == x28) (
  ∃ x29 : Int, rd H14 ((⟨H12.size, 0, none⟩ : Addr).add 1) = some (.int .i64 x29) ∧ (
  ∃ x30 : Int, rd H14 (⟨H9.size, 0, none⟩ : Addr) = some (.int .i64 x30) ∧ (
  letV (IntKind.i64.wrap (k + (1 : Int))) (fun k4 : Int =>
  I_2 (!(x29 == x30)) k4 H14 ∧ M_2 (!(x29 == x30)) k4 H14 < M_2 ok k H12)))) (
  letV (IntKind.i64.wrap (k + (1 : Int))) (fun k5 : Int =>
  I_2 true k5 H14 ∧ M_2 true k5 H14 < M_2 ok k H12)))))))) (
  letV (IntKind.i64.wrap (k + (1 : Int))) (fun k6 : Int =>
  I_2 false k6 H14 ∧ M_2 false k6 H14 < M_2 ok k H12)))))))))) (
  iteB ok (
  ∃ x31 : Sl, rd H12 ((⟨H2.size, 0, none⟩ : Addr).add 1) = some (.slice x31.p x31.n x31.c) ∧ (
  ∃ x32 : Int, rd H12 (⟨H9.size, 0, none⟩ : Addr) = some (.int .i64 x32) ∧ ∃ x33 : Int, rd H12 ((⟨H9.size, 0, none⟩ : Addr).add 1) = some (.int .i64 x33) ∧ ∃ x34 : Int, rd H12 ((⟨H9.size, 0, none⟩ : Addr).add 2) = some (.int .i64 x34) ∧ (
  letH (H12.push (.cells #[.int .i64 x32, .int .i64 x33, .int .i64 x34] t_api_HeatLink (0, 0))) (fun H15 : Heap =>
  runH Try.prog (Builtin.append_ #[t_sl_api_HeatLink, t_sl_api_HeatLink] t_sl_api_HeatLink #[.slice x31.p x31.n x31.c, .slice (some (⟨H12.size, 0, none⟩ : Addr)) 1 1]) H15 (fun v2 H16 =>
  ∃ x35 : Sl, v2 = .slice x35.p x35.n x35.c ∧ (
  okRow H16 ((⟨H2.size, 0, none⟩ : Addr).add 1) 1 ∧ (
  letH (wrs H16 ((⟨H2.size, 0, none⟩ : Addr).add 1) [.slice x35.p x35.n x35.c]) (fun H17 : Heap =>
  ∃ x36 : Sl, rd H17 (⟨H2.size, 0, none⟩ : Addr) = some (.slice x36.p x36.n x36.c) ∧ (
  ∃ x37 : Int, rd H17 (⟨H9.size, 0, none⟩ : Addr) = some (.int .i64 x37) ∧ (
  ∃ x38 : Sl, rd H17 (⟨H2.size, 0, none⟩ : Addr) = some (.slice x38.p x38.n x38.c) ∧ (
  ∃ x39 : Int, rd H17 (⟨H9.size, 0, none⟩ : Addr) = some (.int .i64 x39) ∧ (
  0 ≤ x39 ∧ x39 < (x38.n : Int) ∧ (unSome x38.p (fun a10 =>
  ∃ x40 : Int, rd H17 (a10.add (x39.toNat * 2)) = some (.int .i64 x40) ∧ (
  ∃ x41 : Int, rd H17 ((⟨H9.size, 0, none⟩ : Addr).add 2) = some (.int .i64 x41) ∧ (
  0 ≤ x37 ∧ x37 < (x36.n : Int) ∧ (unSome x36.p (fun a11 =>
  okRow H17 (a11.add (x37.toNat * 2)) 1 ∧ (
  letH (wrs H17 (a11.add (x37.toNat * 2)) [.int .i64 (IntKind.i64.wrap (x40 + x41))]) (fun H18 : Heap =>
  ∃ x42 : Sl, rd H18 (⟨H2.size, 0, none⟩ : Addr) = some (.slice x42.p x42.n x42.c) ∧ (
  ∃ x43 : Int, rd H18 ((⟨H9.size, 0, none⟩ : Addr).add 1) = some (.int .i64 x43) ∧ (
  ∃ x44 : Sl, rd H18 (⟨H2.size, 0, none⟩ : Addr) = some (.slice x44.p x44.n x44.c) ∧ (
  ∃ x45 : Int, rd H18 ((⟨H9.size, 0, none⟩ : Addr).add 1) = some (.int .i64 x45) ∧ (
  0 ≤ x45 ∧ x45 < (x44.n : Int) ∧ (unSome x44.p (fun a12 =>
  ∃ x46 : Int, rd H18 (a12.add (x45.toNat * 2)) = some (.int .i64 x46) ∧ (
  ∃ x47 : Int, rd H18 ((⟨H9.size, 0, none⟩ : Addr).add 2) = some (.int .i64 x47) ∧ (
  0 ≤ x43 ∧ x43 < (x42.n : Int) ∧ (unSome x42.p (fun a13 =>
  okRow H18 (a13.add (x43.toNat * 2)) 1 ∧ (
  letH (wrs H18 (a13.add (x43.toNat * 2)) [.int .i64 (IntKind.i64.wrap (x46 + x47))]) (fun H19 : Heap =>
  letV (IntKind.i64.wrap (i3 + (1 : Int))) (fun i4 : Int =>
  I_1 i4 H19 ∧ M_1 i4 H19 < M_1 i3 H9))))))))))))))))))))))))))))))))) (
  letV (IntKind.i64.wrap (i3 + (1 : Int))) (fun i5 : Int =>
  I_1 i5 H12 ∧ M_1 i5 H12 < M_1 i3 H9))))

def F_law38_Some_r2 (R : Value → Heap → Prop) (H : Heap) (links : Sl) (n : Int) (H2 : Heap) (I_1 : Int → Heap → Prop) (M_1 : Int → Heap → Nat) (i3 : Int) (H9 : Heap) : Prop :=
  iteB (decide (i3 < (links.n : Int))) (
  iteB (decide (i3 < (12 : Int))) (
  0 ≤ i3 ∧ i3 < (links.n : Int) ∧ (unSome links.p (fun a6 =>
  ∃ x7 : Int, rd H9 (a6.add (i3.toNat * 3)) = some (.int .i64 x7) ∧ (
  CallsP Try.prog n_help_Mod #[.int .i64 x7, .int .i64 n] (fun v =>
  ∃ x8 : Int, v = .int .i64 x8 ∧ (
  0 ≤ i3 ∧ i3 < (links.n : Int) ∧ (unSome links.p (fun a7 =>
  ∃ x9 : Int, rd H9 ((a7.add (i3.toNat * 3)).add 1) = some (.int .i64 x9) ∧ (
  CallsP Try.prog n_help_Mod #[.int .i64 x9, .int .i64 n] (fun v1 =>
  ∃ x10 : Int, v1 = .int .i64 x10 ∧ (
  0 ≤ i3 ∧ i3 < (links.n : Int) ∧ (unSome links.p (fun a8 =>
  ∃ x11 : Int, rd H9 ((a8.add (i3.toNat * 3)).add 2) = some (.int .i64 x11) ∧ (
  letH (H9.push (.cells #[.int .i64 (0 : Int), .int .i64 (0 : Int), .int .i64 (0 : Int)] t_api_HeatLink (0, 0))) (fun H10 : Heap =>
  Ext H9 H10 ∧ (
  okRow H10 (⟨H9.size, 0, none⟩ : Addr) 3 ∧ (
  letH (wrs H10 (⟨H9.size, 0, none⟩ : Addr) [.int .i64 x8, .int .i64 x10, .int .i64 (IntKind.i64.wrap ((1 : Int) + (IntKind.i64.wrap ((IntKind.u64.wrap x11).tmod (5 : Int)))))]) (fun H11 : Heap =>
  ∃ x12 : Int, rd H11 (⟨H9.size, 0, none⟩ : Addr) = some (.int .i64 x12) ∧ (
  ∃ x13 : Int, rd H11 ((⟨H9.size, 0, none⟩ : Addr).add 1) = some (.int .i64 x13) ∧ (
  ∃ I_2 : Bool → Int → Heap → Prop, ∃ M_2 : Bool → Int → Heap → Nat, I_2 (x12 != x13) (0 : Int) H11 ∧ (∀ ok : Bool, ∀ k : Int, ∀ H12 : Heap, I_2 ok k H12 → F_law38_Some_r1 H2 I_1 M_1 i3 H9 I_2 M_2 ok k H12))))))))))))))))))))) (
  ∃ x48 : Sl, rd H9 (⟨H2.size, 0, none⟩ : Addr) = some (.slice x48.p x48.n x48.c) ∧ ∃ x49 : Sl, rd H9 ((⟨H2.size, 0, none⟩ : Addr).add 1) = some (.slice x49.p x49.n x49.c) ∧ ∃ x50 : Int, rd H9 ((⟨H2.size, 0, none⟩ : Addr).add 2) = some (.int .i64 x50) ∧ (
  okRow H9 (⟨H.size, 0, none⟩ : Addr) 3 ∧ (
  letH (wrs H9 (⟨H.size, 0, none⟩ : Addr) [.slice x48.p x48.n x48.c, .slice x49.p x49.n x49.c, .int .i64 x50]) (fun H20 : Heap =>
  ∃ r : Sl, rd H20 (⟨H.size, 0, none⟩ : Addr) = some (.slice r.p r.n r.c) ∧ ∃ r1 : Sl, rd H20 ((⟨H.size, 0, none⟩ : Addr).add 1) = some (.slice r1.p r1.n r1.c) ∧ ∃ r2 : Int, rd H20 ((⟨H.size, 0, none⟩ : Addr).add 2) = some (.int .i64 r2) ∧ (
  R (.agg #[.slice r.p r.n r.c, .slice r1.p r1.n r1.c, .int .i64 r2]) H20)))))) (
  ∃ x51 : Sl, rd H9 (⟨H2.size, 0, none⟩ : Addr) = some (.slice x51.p x51.n x51.c) ∧ ∃ x52 : Sl, rd H9 ((⟨H2.size, 0, none⟩ : Addr).add 1) = some (.slice x52.p x52.n x52.c) ∧ ∃ x53 : Int, rd H9 ((⟨H2.size, 0, none⟩ : Addr).add 2) = some (.int .i64 x53) ∧ (
  okRow H9 (⟨H.size, 0, none⟩ : Addr) 3 ∧ (
  letH (wrs H9 (⟨H.size, 0, none⟩ : Addr) [.slice x51.p x51.n x51.c, .slice x52.p x52.n x52.c, .int .i64 x53]) (fun H21 : Heap =>
  ∃ r3 : Sl, rd H21 (⟨H.size, 0, none⟩ : Addr) = some (.slice r3.p r3.n r3.c) ∧ ∃ r4 : Sl, rd H21 ((⟨H.size, 0, none⟩ : Addr).add 1) = some (.slice r4.p r4.n r4.c) ∧ ∃ r5 : Int, rd H21 ((⟨H.size, 0, none⟩ : Addr).add 2) = some (.int .i64 r5) ∧ (
  R (.agg #[.slice r3.p r3.n r3.c, .slice r4.p r4.n r4.c, .int .i64 r5]) H21)))))

def F_law38_Some_r3 (R : Value → Heap → Prop) (H : Heap) (domains : Sl) (links : Sl) (n : Int) (H2 : Heap) (I_ : Int → Heap → Prop) (M_ : Int → Heap → Nat) (i : Int) (H5 : Heap) : Prop :=
  iteB (decide (i < n)) (
  ∃ x : Sl, rd H5 (⟨H2.size, 0, none⟩ : Addr) = some (.slice x.p x.n x.c) ∧ (
  0 ≤ i ∧ i < (x.n : Int) ∧ (unSome x.p (fun a =>
  okRow H5 (a.add (i.toNat * 2)) 2 ∧ (
  letH (wrs H5 (a.add (i.toNat * 2)) [.int .i64 (1 : Int), .int .i64 (1 : Int)]) (fun H6 : Heap =>
  iteB (decide (i < (domains.n : Int))) (
  ∃ x1 : Sl, rd H6 (⟨H2.size, 0, none⟩ : Addr) = some (.slice x1.p x1.n x1.c) ∧ (
  0 ≤ i ∧ i < (domains.n : Int) ∧ (unSome domains.p (fun a1 =>
  ∃ x2 : Int, rd H6 ((a1.add (i.toNat * 2)).add 1) = some (.int .i64 x2) ∧ (
  0 ≤ i ∧ i < (x1.n : Int) ∧ (unSome x1.p (fun a2 =>
  okRow H6 ((a2.add (i.toNat * 2)).add 1) 1 ∧ (
  letH (wrs H6 ((a2.add (i.toNat * 2)).add 1) [.int .i64 (IntKind.i64.wrap ((1 : Int) + (IntKind.i64.wrap ((IntKind.u64.wrap x2).tmod (6 : Int)))))]) (fun H7 : Heap =>
  ∃ x3 : Sl, rd H7 (⟨H2.size, 0, none⟩ : Addr) = some (.slice x3.p x3.n x3.c) ∧ (
  ∃ x4 : Sl, rd H7 (⟨H2.size, 0, none⟩ : Addr) = some (.slice x4.p x4.n x4.c) ∧ (
  0 ≤ i ∧ i < (x4.n : Int) ∧ (unSome x4.p (fun a3 =>
  ∃ x5 : Int, rd H7 ((a3.add (i.toNat * 2)).add 1) = some (.int .i64 x5) ∧ (
  0 ≤ i ∧ i < (domains.n : Int) ∧ (unSome domains.p (fun a4 =>
  ∃ x6 : Int, rd H7 (a4.add (i.toNat * 2)) = some (.int .i64 x6) ∧ (
  0 ≤ i ∧ i < (x3.n : Int) ∧ (unSome x3.p (fun a5 =>
  okRow H7 (a5.add (i.toNat * 2)) 1 ∧ (
  letH (wrs H7 (a5.add (i.toNat * 2)) [.int .i64 (IntKind.i64.wrap (x5 + (IntKind.i64.wrap ((IntKind.u64.wrap x6).tmod (8 : Int)))))]) (fun H8 : Heap =>
  letV (IntKind.i64.wrap (i + (1 : Int))) (fun i1 : Int =>
  I_ i1 H8 ∧ M_ i1 H8 < M_ i H5)))))))))))))))))))))) (
  letV (IntKind.i64.wrap (i + (1 : Int))) (fun i2 : Int =>
  I_ i2 H6 ∧ M_ i2 H6 < M_ i H5)))))))) (
  ∃ I_1 : Int → Heap → Prop, ∃ M_1 : Int → Heap → Nat, I_1 (0 : Int) H5 ∧ (∀ i3 : Int, ∀ H9 : Heap, I_1 i3 H9 → F_law38_Some_r2 R H links n H2 I_1 M_1 i3 H9))

def F_law38_Some (R : Value → Heap → Prop) (domains : Sl) (links : Sl) (ambient : Int) (H : Heap) : Prop :=
  letH (H.push (.cells #[.slice none 0 0, .slice none 0 0, .int .i64 (0 : Int)] t_law38_System (0, 0))) (fun H1 : Heap =>
  letV (if (if (5 : Int) < (domains.n : Int) then (5 : Int) else (domains.n : Int)) > (1 : Int) then (if (5 : Int) < (domains.n : Int) then (5 : Int) else (domains.n : Int)) else (1 : Int)) (fun n : Int =>
  0 ≤ n ∧ n ≤ n ∧ n * ((16 : Nat) : Int) ≤ 281474976710656 ∧ (
  letH (H1.push (.cells (zeroRow (.agg #[.int .i64 (0 : Int), .int .i64 (0 : Int)]) n.toNat) t_api_HeatDomain (0, 0))) (fun H2 : Heap =>
  letH (H2.push (.cells #[.slice none 0 0, .slice none 0 0, .int .i64 (0 : Int)] t_law38_System (0, 0))) (fun H3 : Heap =>
  okRow H3 (⟨H2.size, 0, none⟩ : Addr) 3 ∧ (
  letH (wrs H3 (⟨H2.size, 0, none⟩ : Addr) [.slice (some (⟨H1.size, 0, none⟩ : Addr)) n.toNat n.toNat, .slice none 0 0, .int .i64 (IntKind.i64.wrap ((IntKind.i64.wrap ((IntKind.u64.wrap ambient).tmod (201 : Int))) - (100 : Int)))]) (fun H4 : Heap =>
  ∃ I_ : Int → Heap → Prop, ∃ M_ : Int → Heap → Nat, I_ (0 : Int) H4 ∧ (∀ i : Int, ∀ H5 : Heap, I_ i H5 → F_law38_Some_r3 R H domains links n H2 I_ M_ i H5))))))))

theorem F_law38_Some_eq (R : Value → Heap → Prop) (domains : Sl) (links : Sl) (ambient : Int) (H : Heap) : wpF Try.prog Try.f41 [(9, .int .i64 0), (10, .int .i64 0), (12, .bool false), (13, .int .i64 0)] [] [(4, [9], [0, 1, 6, 7, 8]), (11, [10], [1, 6, 7, 8]), (16, [12, 13], [1, 6, 7, 8, 10, 11])] [18] [.slice domains.p domains.n domains.c, .slice links.p links.n links.c, .int .i64 ambient] H R = F_law38_Some R domains links ambient H := by kernel_rfl

theorem F_law38_Some_ok {R : Value → Heap → Prop} (domains : Sl) (links : Sl) (ambient : Int) {H : Heap} (h : F_law38_Some R domains links ambient H) : CallsH Try.prog n_law38_Some #[.slice domains.p domains.n domains.c, .slice links.p links.n links.c, .int .i64 ambient] H R :=
  wpF_ok Try.func41 (F_law38_Some_eq R domains links ambient H) h

/-! ### 42: platformfw/thermal.Sustainable -/

def F_thermal_Sustainable (R : Value → Heap → Prop) (d_0 : Int) (d_1 : Int) (ambient : Int) (limit : Int) (H : Heap) : Prop :=
  letH (H.push (.cells #[.int .i64 d_0, .int .i64 d_1] t_api_HeatDomain (0, 0))) (fun H1 : Heap =>
  ∃ x : Int, rd H1 (⟨H.size, 0, none⟩ : Addr) = some (.int .i64 x) ∧ ∃ x1 : Int, rd H1 ((⟨H.size, 0, none⟩ : Addr).add 1) = some (.int .i64 x1) ∧ (
  letH (H1.push (.cells #[.int .i64 x, .int .i64 x1] t_api_HeatDomain (0, 0))) (fun H2 : Heap =>
  CallsH Try.prog n_heat_New #[.slice (some (⟨H1.size, 0, none⟩ : Addr)) 1 1, .slice none 0 0, .int .i64 ambient] H2 (fun v H3 =>
  ∃ x2 : Option Addr, ∃ x3 : Int, v = .tuple #[.pointer x2, .int .i64 x3] ∧ (
  iteB (x3 != (0 : Int)) (
  R (.tuple #[.int .i64 (0 : Int), .int .i64 (1 : Int)]) H3) (
  iteB (decide (limit < ambient)) (
  R (.tuple #[.int .i64 (0 : Int), .int .i64 (1 : Int)]) H3) (
  iteB (decide (limit > (33554432 : Int))) (
  R (.tuple #[.int .i64 (0 : Int), .int .i64 (1 : Int)]) H3) (
  ∃ x4 : Int, rd H3 ((⟨H.size, 0, none⟩ : Addr).add 1) = some (.int .i64 x4) ∧ (
  letV (IntKind.i64.wrap (x4 * (IntKind.i64.wrap (limit - ambient)))) (fun x5 : Int =>
  R (.tuple #[.int .i64 x5, .int .i64 (0 : Int)]) H3))))))))))

theorem F_thermal_Sustainable_eq (R : Value → Heap → Prop) (d_0 : Int) (d_1 : Int) (ambient : Int) (limit : Int) (H : Heap) : wpF Try.prog Try.f42 [] [] [] [18] [.agg #[.int .i64 d_0, .int .i64 d_1], .int .i64 ambient, .int .i64 limit] H R = F_thermal_Sustainable R d_0 d_1 ambient limit H := by kernel_rfl

theorem F_thermal_Sustainable_ok {R : Value → Heap → Prop} (d_0 : Int) (d_1 : Int) (ambient : Int) (limit : Int) {H : Heap} (h : F_thermal_Sustainable R d_0 d_1 ambient limit H) : CallsH Try.prog n_thermal_Sustainable #[.agg #[.int .i64 d_0, .int .i64 d_1], .int .i64 ambient, .int .i64 limit] H R :=
  wpF_ok Try.func42 (F_thermal_Sustainable_eq R d_0 d_1 ambient limit H) h

/-! ### 43: platformfw/heat.New -/

def F_heat_New_r1 (R : Value → Heap → Prop) (domains : Sl) (ambient : Int) (H4 : Heap) (I_ : Int → Heap → Prop) (M_ : Int → Heap → Nat) (x3 : Int) (H6 : Heap) : Prop :=
  iteB (decide (x3 < (domains.n : Int))) (
  0 ≤ x3 ∧ x3 < (domains.n : Int) ∧ (unSome domains.p (fun a =>
  ∃ x4 : Int, rd H6 (a.add (x3.toNat * 2)) = some (.int .i64 x4) ∧ ∃ x5 : Int, rd H6 ((a.add (x3.toNat * 2)).add 1) = some (.int .i64 x5) ∧ (
  letH (H6.push (.cells #[.int .i64 (0 : Int), .int .i64 (0 : Int)] t_api_HeatDomain (0, 0))) (fun H7 : Heap =>
  okRow H7 (⟨H6.size, 0, none⟩ : Addr) 2 ∧ (
  letH (wrs H7 (⟨H6.size, 0, none⟩ : Addr) [.int .i64 x4, .int .i64 x5]) (fun H8 : Heap =>
  ∃ x6 : Sl, rd H8 ((⟨H4.size, 0, none⟩ : Addr).add 3) = some (.slice x6.p x6.n x6.c) ∧ (
  ∃ x7 : Int, rd H8 (⟨H6.size, 0, none⟩ : Addr) = some (.int .i64 x7) ∧ (
  0 ≤ x3 ∧ x3 < (x6.n : Int) ∧ (unSome x6.p (fun a1 =>
  okRow H8 (a1.add (x3.toNat * 1)) 1 ∧ (
  letH (wrs H8 (a1.add (x3.toNat * 1)) [.int .i64 (IntKind.i64.wrap (x7 * ambient))]) (fun H9 : Heap =>
  I_ (IntKind.i64.wrap (x3 + (1 : Int))) H9 ∧ M_ (IntKind.i64.wrap (x3 + (1 : Int))) H9 < M_ x3 H6))))))))))))) (
  R (.tuple #[.pointer (some (⟨H4.size, 0, none⟩ : Addr)), .int .i64 (0 : Int)]) H6)

def F_heat_New_r2 (R : Value → Heap → Prop) (domains : Sl) (ambient : Int) (H11 : Heap) (I_1 : Int → Heap → Prop) (M_1 : Int → Heap → Nat) (x9 : Int) (H13 : Heap) : Prop :=
  iteB (decide (x9 < (domains.n : Int))) (
  0 ≤ x9 ∧ x9 < (domains.n : Int) ∧ (unSome domains.p (fun a2 =>
  ∃ x10 : Int, rd H13 (a2.add (x9.toNat * 2)) = some (.int .i64 x10) ∧ ∃ x11 : Int, rd H13 ((a2.add (x9.toNat * 2)).add 1) = some (.int .i64 x11) ∧ (
  letH (H13.push (.cells #[.int .i64 (0 : Int), .int .i64 (0 : Int)] t_api_HeatDomain (0, 0))) (fun H14 : Heap =>
  okRow H14 (⟨H13.size, 0, none⟩ : Addr) 2 ∧ (
  letH (wrs H14 (⟨H13.size, 0, none⟩ : Addr) [.int .i64 x10, .int .i64 x11]) (fun H15 : Heap =>
  ∃ x12 : Sl, rd H15 ((⟨H11.size, 0, none⟩ : Addr).add 3) = some (.slice x12.p x12.n x12.c) ∧ (
  ∃ x13 : Int, rd H15 (⟨H13.size, 0, none⟩ : Addr) = some (.int .i64 x13) ∧ (
  0 ≤ x9 ∧ x9 < (x12.n : Int) ∧ (unSome x12.p (fun a3 =>
  okRow H15 (a3.add (x9.toNat * 1)) 1 ∧ (
  letH (wrs H15 (a3.add (x9.toNat * 1)) [.int .i64 (IntKind.i64.wrap (x13 * ambient))]) (fun H16 : Heap =>
  I_1 (IntKind.i64.wrap (x9 + (1 : Int))) H16 ∧ M_1 (IntKind.i64.wrap (x9 + (1 : Int))) H16 < M_1 x9 H13))))))))))))) (
  R (.tuple #[.pointer (some (⟨H11.size, 0, none⟩ : Addr)), .int .i64 (0 : Int)]) H13)

def F_heat_New_r3 (R : Value → Heap → Prop) (domains : Sl) (ambient : Int) (H19 : Heap) (I_2 : Int → Heap → Prop) (M_2 : Int → Heap → Nat) (x16 : Int) (H21 : Heap) : Prop :=
  iteB (decide (x16 < (domains.n : Int))) (
  0 ≤ x16 ∧ x16 < (domains.n : Int) ∧ (unSome domains.p (fun a4 =>
  ∃ x17 : Int, rd H21 (a4.add (x16.toNat * 2)) = some (.int .i64 x17) ∧ ∃ x18 : Int, rd H21 ((a4.add (x16.toNat * 2)).add 1) = some (.int .i64 x18) ∧ (
  letH (H21.push (.cells #[.int .i64 (0 : Int), .int .i64 (0 : Int)] t_api_HeatDomain (0, 0))) (fun H22 : Heap =>
  okRow H22 (⟨H21.size, 0, none⟩ : Addr) 2 ∧ (
  letH (wrs H22 (⟨H21.size, 0, none⟩ : Addr) [.int .i64 x17, .int .i64 x18]) (fun H23 : Heap =>
  ∃ x19 : Sl, rd H23 ((⟨H19.size, 0, none⟩ : Addr).add 3) = some (.slice x19.p x19.n x19.c) ∧ (
  ∃ x20 : Int, rd H23 (⟨H21.size, 0, none⟩ : Addr) = some (.int .i64 x20) ∧ (
  0 ≤ x16 ∧ x16 < (x19.n : Int) ∧ (unSome x19.p (fun a5 =>
  okRow H23 (a5.add (x16.toNat * 1)) 1 ∧ (
  letH (wrs H23 (a5.add (x16.toNat * 1)) [.int .i64 (IntKind.i64.wrap (x20 * ambient))]) (fun H24 : Heap =>
  I_2 (IntKind.i64.wrap (x16 + (1 : Int))) H24 ∧ M_2 (IntKind.i64.wrap (x16 + (1 : Int))) H24 < M_2 x16 H21))))))))))))) (
  R (.tuple #[.pointer (some (⟨H19.size, 0, none⟩ : Addr)), .int .i64 (0 : Int)]) H21)

def F_heat_New (R : Value → Heap → Prop) (domains : Sl) (links : Sl) (ambient : Int) (H : Heap) : Prop :=
  CallsH Try.prog n_heat_valid #[.slice domains.p domains.n domains.c, .slice links.p links.n links.c, .int .i64 ambient] H (fun v H1 =>
  ∃ x : Bool, v = .bool x ∧ (
  iteB (!x) (
  R (.tuple #[.pointer none, .int .i64 (1 : Int)]) H1) (
  (
  CallsH Try.prog n_slices_Clone_sl_api_HeatDomain_api_HeatDomain #[.slice domains.p domains.n domains.c] H1 (fun v1 H2 =>
  ∃ x1 : Sl, v1 = .slice x1.p x1.n x1.c ∧ (
  (
  CallsH Try.prog n_slices_Clone_sl_api_HeatLink_api_HeatLink #[.slice links.p links.n links.c] H2 (fun v2 H3 =>
  ∃ x2 : Sl, v2 = .slice x2.p x2.n x2.c ∧ (
  0 ≤ (domains.n : Int) ∧ (domains.n : Int) ≤ (domains.n : Int) ∧ (domains.n : Int) * ((8 : Nat) : Int) ≤ 281474976710656 ∧ (
  letH (H3.push (.cells (zeroRow (.int .i64 (0 : Int)) (domains.n : Int).toNat) t_int64 (0, 0))) (fun H4 : Heap =>
  letH (H4.push (.cells #[.slice x1.p x1.n x1.c, .slice x2.p x2.n x2.c, .int .i64 ambient, .slice (some (⟨H3.size, 0, none⟩ : Addr)) ((domains.n : Int).toNat) ((domains.n : Int).toNat), .int .i64 (0 : Int)] t_heat_Model (0, 0))) (fun H5 : Heap =>
  ∃ I_ : Int → Heap → Prop, ∃ M_ : Int → Heap → Nat, I_ (0 : Int) H5 ∧ (∀ x3 : Int, ∀ H6 : Heap, I_ x3 H6 → F_heat_New_r1 R domains ambient H4 I_ M_ x3 H6))))))) ∧ (
  0 ≤ (domains.n : Int) ∧ (domains.n : Int) ≤ (domains.n : Int) ∧ (domains.n : Int) * ((8 : Nat) : Int) ≤ 281474976710656 ∧ (
  letH (H2.push (.cells (zeroRow (.int .i64 (0 : Int)) (domains.n : Int).toNat) t_int64 (0, 0))) (fun H10 : Heap =>
  CallsH Try.prog n_slices_Clone_sl_api_HeatLink_api_HeatLink #[.slice links.p links.n links.c] H10 (fun v3 H11 =>
  ∃ x8 : Sl, v3 = .slice x8.p x8.n x8.c ∧ (
  letH (H11.push (.cells #[.slice x1.p x1.n x1.c, .slice x8.p x8.n x8.c, .int .i64 ambient, .slice (some (⟨H2.size, 0, none⟩ : Addr)) ((domains.n : Int).toNat) ((domains.n : Int).toNat), .int .i64 (0 : Int)] t_heat_Model (0, 0))) (fun H12 : Heap =>
  ∃ I_1 : Int → Heap → Prop, ∃ M_1 : Int → Heap → Nat, I_1 (0 : Int) H12 ∧ (∀ x9 : Int, ∀ H13 : Heap, I_1 x9 H13 → F_heat_New_r2 R domains ambient H11 I_1 M_1 x9 H13)))))))))) ∧ (
  0 ≤ (domains.n : Int) ∧ (domains.n : Int) ≤ (domains.n : Int) ∧ (domains.n : Int) * ((8 : Nat) : Int) ≤ 281474976710656 ∧ (
  letH (H1.push (.cells (zeroRow (.int .i64 (0 : Int)) (domains.n : Int).toNat) t_int64 (0, 0))) (fun H17 : Heap =>
  CallsH Try.prog n_slices_Clone_sl_api_HeatDomain_api_HeatDomain #[.slice domains.p domains.n domains.c] H17 (fun v4 H18 =>
  ∃ x14 : Sl, v4 = .slice x14.p x14.n x14.c ∧ (
  CallsH Try.prog n_slices_Clone_sl_api_HeatLink_api_HeatLink #[.slice links.p links.n links.c] H18 (fun v5 H19 =>
  ∃ x15 : Sl, v5 = .slice x15.p x15.n x15.c ∧ (
  letH (H19.push (.cells #[.slice x14.p x14.n x14.c, .slice x15.p x15.n x15.c, .int .i64 ambient, .slice (some (⟨H1.size, 0, none⟩ : Addr)) ((domains.n : Int).toNat) ((domains.n : Int).toNat), .int .i64 (0 : Int)] t_heat_Model (0, 0))) (fun H20 : Heap =>
  ∃ I_2 : Int → Heap → Prop, ∃ M_2 : Int → Heap → Nat, I_2 (0 : Int) H20 ∧ (∀ x16 : Int, ∀ H21 : Heap, I_2 x16 H21 → F_heat_New_r3 R domains ambient H19 I_2 M_2 x16 H21))))))))))))

theorem F_heat_New_eq (R : Value → Heap → Prop) (domains : Sl) (links : Sl) (ambient : Int) (H : Heap) : wpF Try.prog Try.f43 [(28, .int .i64 0)] [] [(5, [28], [2, 8, 26, 27])] [18] [.slice domains.p domains.n domains.c, .slice links.p links.n links.c, .int .i64 ambient] H R = F_heat_New R domains links ambient H := by kernel_rfl

theorem F_heat_New_ok {R : Value → Heap → Prop} (domains : Sl) (links : Sl) (ambient : Int) {H : Heap} (h : F_heat_New R domains links ambient H) : CallsH Try.prog n_heat_New #[.slice domains.p domains.n domains.c, .slice links.p links.n links.c, .int .i64 ambient] H R :=
  wpF_ok Try.func43 (F_heat_New_eq R domains links ambient H) h

/-! ### 44: platformfw/platformfwlaw38.Powers -/

def F_law38_Powers_r1 (R : Value → Heap → Prop) (H : Heap) (raw : Sl) (n : Int) (most : Int) (I_ : Int → Heap → Prop) (M_ : Int → Heap → Nat) (i : Int) (H2 : Heap) : Prop :=
  iteB (decide (i < n)) (
  iteB (decide (i < (raw.n : Int))) (
  0 ≤ i ∧ i < (raw.n : Int) ∧ (unSome raw.p (fun a =>
  ∃ x : Int, rd H2 (a.add (i.toNat * 1)) = some (.int .i64 x) ∧ (
  (IntKind.u64.wrap (IntKind.i64.wrap (most + (1 : Int)))) ≠ 0 ∧ (
  0 ≤ i ∧ i < (n.toNat : Int) ∧ (okRow H2 ((⟨H.size, 0, none⟩ : Addr).add (i.toNat * 1)) 1 ∧ (
  letH (wrs H2 ((⟨H.size, 0, none⟩ : Addr).add (i.toNat * 1)) [.int .i64 (IntKind.i64.wrap ((IntKind.u64.wrap x).tmod (IntKind.u64.wrap (IntKind.i64.wrap (most + (1 : Int))))))]) (fun H3 : Heap =>
  letV (IntKind.i64.wrap (i + (1 : Int))) (fun i1 : Int =>
  I_ i1 H3 ∧ M_ i1 H3 < M_ i H2))))))))) (
  R (.slice (some (⟨H.size, 0, none⟩ : Addr)) n.toNat n.toNat) H2)) (
  R (.slice (some (⟨H.size, 0, none⟩ : Addr)) n.toNat n.toNat) H2)

def F_law38_Powers (R : Value → Heap → Prop) (raw : Sl) (n : Int) (most : Int) (H : Heap) : Prop :=
  0 ≤ n ∧ n ≤ n ∧ n * ((8 : Nat) : Int) ≤ 281474976710656 ∧ (
  letH (H.push (.cells (zeroRow (.int .i64 (0 : Int)) n.toNat) t_int64 (0, 0))) (fun H1 : Heap =>
  ∃ I_ : Int → Heap → Prop, ∃ M_ : Int → Heap → Nat, I_ (0 : Int) H1 ∧ (∀ i : Int, ∀ H2 : Heap, I_ i H2 → F_law38_Powers_r1 R H raw n most I_ M_ i H2)))

theorem F_law38_Powers_eq (R : Value → Heap → Prop) (raw : Sl) (n : Int) (most : Int) (H : Heap) : wpF Try.prog Try.f44 [(8, .int .i64 0)] [] [(3, [8], [0, 1, 2, 7])] [18] [.slice raw.p raw.n raw.c, .int .i64 n, .int .i64 most] H R = F_law38_Powers R raw n most H := by kernel_rfl

theorem F_law38_Powers_ok {R : Value → Heap → Prop} (raw : Sl) (n : Int) (most : Int) {H : Heap} (h : F_law38_Powers R raw n most H) : CallsH Try.prog n_law38_Powers #[.slice raw.p raw.n raw.c, .int .i64 n, .int .i64 most] H R :=
  wpF_ok Try.func44 (F_law38_Powers_eq R raw n most H) h

/-! ### 45: (*platformfw/heat.Model).Step -/

def F_heat_Model_Step_r1 (R : Value → Heap → Prop) (m : Addr) (t : Sl) (x13 : Sl) (I_1 : Int → Heap → Prop) (M_1 : Int → Heap → Nat) (x14 : Int) (H8 : Heap) : Prop :=
  iteB (decide (x14 < (x13.n : Int))) (
  0 ≤ x14 ∧ x14 < (x13.n : Int) ∧ (unSome x13.p (fun a5 =>
  ∃ x15 : Int, rd H8 (a5.add (x14.toNat * 3)) = some (.int .i64 x15) ∧ ∃ x16 : Int, rd H8 ((a5.add (x14.toNat * 3)).add 1) = some (.int .i64 x16) ∧ ∃ x17 : Int, rd H8 ((a5.add (x14.toNat * 3)).add 2) = some (.int .i64 x17) ∧ (
  letH (H8.push (.cells #[.int .i64 (0 : Int), .int .i64 (0 : Int), .int .i64 (0 : Int)] t_api_HeatLink (0, 0))) (fun H9 : Heap =>
  okRow H9 (⟨H8.size, 0, none⟩ : Addr) 3 ∧ (
  letH (wrs H9 (⟨H8.size, 0, none⟩ : Addr) [.int .i64 x15, .int .i64 x16, .int .i64 x17]) (fun H10 : Heap =>
  ∃ x18 : Int, rd H10 ((⟨H8.size, 0, none⟩ : Addr).add 2) = some (.int .i64 x18) ∧ (
  ∃ x19 : Int, rd H10 (⟨H8.size, 0, none⟩ : Addr) = some (.int .i64 x19) ∧ (
  0 ≤ x19 ∧ x19 < (t.n : Int) ∧ (unSome t.p (fun a6 =>
  ∃ x20 : Int, rd H10 (a6.add (x19.toNat * 1)) = some (.int .i64 x20) ∧ (
  ∃ x21 : Int, rd H10 ((⟨H8.size, 0, none⟩ : Addr).add 1) = some (.int .i64 x21) ∧ (
  0 ≤ x21 ∧ x21 < (t.n : Int) ∧ (unSome t.p (fun a7 =>
  ∃ x22 : Int, rd H10 (a7.add (x21.toNat * 1)) = some (.int .i64 x22) ∧ (
  letV (IntKind.i64.wrap (x18 * (IntKind.i64.wrap (x20 - x22)))) (fun flow : Int =>
  ∃ x23 : Sl, rd H10 (m.add 3) = some (.slice x23.p x23.n x23.c) ∧ (
  ∃ x24 : Int, rd H10 (⟨H8.size, 0, none⟩ : Addr) = some (.int .i64 x24) ∧ (
  0 ≤ x24 ∧ x24 < (x23.n : Int) ∧ (unSome x23.p (fun a8 =>
  ∃ x25 : Int, rd H10 (a8.add (x24.toNat * 1)) = some (.int .i64 x25) ∧ (
  0 ≤ x24 ∧ x24 < (x23.n : Int) ∧ (unSome x23.p (fun a9 =>
  okRow H10 (a9.add (x24.toNat * 1)) 1 ∧ (
  letH (wrs H10 (a9.add (x24.toNat * 1)) [.int .i64 (IntKind.i64.wrap (x25 - flow))]) (fun H11 : Heap =>
  ∃ x26 : Sl, rd H11 (m.add 3) = some (.slice x26.p x26.n x26.c) ∧ (
  ∃ x27 : Int, rd H11 ((⟨H8.size, 0, none⟩ : Addr).add 1) = some (.int .i64 x27) ∧ (
  0 ≤ x27 ∧ x27 < (x26.n : Int) ∧ (unSome x26.p (fun a10 =>
  ∃ x28 : Int, rd H11 (a10.add (x27.toNat * 1)) = some (.int .i64 x28) ∧ (
  0 ≤ x27 ∧ x27 < (x26.n : Int) ∧ (unSome x26.p (fun a11 =>
  okRow H11 (a11.add (x27.toNat * 1)) 1 ∧ (
  letH (wrs H11 (a11.add (x27.toNat * 1)) [.int .i64 (IntKind.i64.wrap (x28 + flow))]) (fun H12 : Heap =>
  I_1 (IntKind.i64.wrap (x14 + (1 : Int))) H12 ∧ M_1 (IntKind.i64.wrap (x14 + (1 : Int))) H12 < M_1 x14 H8))))))))))))))))))))))))))))))))))) (
  CallsH Try.prog n_heat_Model_temperatures #[.pointer (some m)] H8 (fun v2 H13 =>
  ∃ x29 : Sl, v2 = .slice x29.p x29.n x29.c ∧ (
  R (.tuple #[.slice x29.p x29.n x29.c, .int .i64 (0 : Int)]) H13)))

def F_heat_Model_Step_r2 (R : Value → Heap → Prop) (m : Addr) (power : Sl) (t : Sl) (x2 : Sl) (I_ : Int → Heap → Prop) (M_ : Int → Heap → Nat) (x3 : Int) (H3 : Heap) : Prop :=
  iteB (decide (x3 < (x2.n : Int))) (
  0 ≤ x3 ∧ x3 < (x2.n : Int) ∧ (unSome x2.p (fun a =>
  ∃ x4 : Int, rd H3 (a.add (x3.toNat * 2)) = some (.int .i64 x4) ∧ ∃ x5 : Int, rd H3 ((a.add (x3.toNat * 2)).add 1) = some (.int .i64 x5) ∧ (
  letH (H3.push (.cells #[.int .i64 (0 : Int), .int .i64 (0 : Int)] t_api_HeatDomain (0, 0))) (fun H4 : Heap =>
  okRow H4 (⟨H3.size, 0, none⟩ : Addr) 2 ∧ (
  letH (wrs H4 (⟨H3.size, 0, none⟩ : Addr) [.int .i64 x4, .int .i64 x5]) (fun H5 : Heap =>
  ∃ x6 : Int, rd H5 ((⟨H3.size, 0, none⟩ : Addr).add 1) = some (.int .i64 x6) ∧ (
  0 ≤ x3 ∧ x3 < (t.n : Int) ∧ (unSome t.p (fun a1 =>
  ∃ x7 : Int, rd H5 (a1.add (x3.toNat * 1)) = some (.int .i64 x7) ∧ (
  ∃ x8 : Int, rd H5 (m.add 2) = some (.int .i64 x8) ∧ (
  letV (IntKind.i64.wrap (x6 * (IntKind.i64.wrap (x7 - x8)))) (fun out : Int =>
  ∃ x9 : Sl, rd H5 (m.add 3) = some (.slice x9.p x9.n x9.c) ∧ (
  0 ≤ x3 ∧ x3 < (x9.n : Int) ∧ (unSome x9.p (fun a2 =>
  ∃ x10 : Int, rd H5 (a2.add (x3.toNat * 1)) = some (.int .i64 x10) ∧ (
  0 ≤ x3 ∧ x3 < (power.n : Int) ∧ (unSome power.p (fun a3 =>
  ∃ x11 : Int, rd H5 (a3.add (x3.toNat * 1)) = some (.int .i64 x11) ∧ (
  0 ≤ x3 ∧ x3 < (x9.n : Int) ∧ (unSome x9.p (fun a4 =>
  okRow H5 (a4.add (x3.toNat * 1)) 1 ∧ (
  letH (wrs H5 (a4.add (x3.toNat * 1)) [.int .i64 (IntKind.i64.wrap (x10 + (IntKind.i64.wrap (x11 - out))))]) (fun H6 : Heap =>
  ∃ x12 : Int, rd H6 (m.add 4) = some (.int .i64 x12) ∧ (
  okRow H6 (m.add 4) 1 ∧ (
  letH (wrs H6 (m.add 4) [.int .i64 (IntKind.i64.wrap (x12 + out))]) (fun H7 : Heap =>
  I_ (IntKind.i64.wrap (x3 + (1 : Int))) H7 ∧ M_ (IntKind.i64.wrap (x3 + (1 : Int))) H7 < M_ x3 H3))))))))))))))))))))))))))) (
  ∃ x13 : Sl, rd H3 (m.add 1) = some (.slice x13.p x13.n x13.c) ∧ (
  ∃ I_1 : Int → Heap → Prop, ∃ M_1 : Int → Heap → Nat, I_1 (0 : Int) H3 ∧ (∀ x14 : Int, ∀ H8 : Heap, I_1 x14 H8 → F_heat_Model_Step_r1 R m t x13 I_1 M_1 x14 H8)))

def F_heat_Model_Step (R : Value → Heap → Prop) (m : Addr) (power : Sl) (H : Heap) : Prop :=
  ∃ x : Sl, rd H m = some (.slice x.p x.n x.c) ∧ (
  CallsH Try.prog n_heat_validPower #[.slice power.p power.n power.c, .int .i64 (x.n : Int)] H (fun v H1 =>
  ∃ x1 : Bool, v = .bool x1 ∧ (
  iteB (!x1) (
  R (.tuple #[.slice none 0 0, .int .i64 (1 : Int)]) H1) (
  CallsH Try.prog n_heat_Model_temperatures #[.pointer (some m)] H1 (fun v1 H2 =>
  ∃ t : Sl, v1 = .slice t.p t.n t.c ∧ (
  ∃ x2 : Sl, rd H2 m = some (.slice x2.p x2.n x2.c) ∧ (
  ∃ I_ : Int → Heap → Prop, ∃ M_ : Int → Heap → Nat, I_ (0 : Int) H2 ∧ (∀ x3 : Int, ∀ H3 : Heap, I_ x3 H3 → F_heat_Model_Step_r2 R m power t x2 I_ M_ x3 H3))))))))

theorem F_heat_Model_Step_eq (R : Value → Heap → Prop) (m : Addr) (power : Sl) (H : Heap) : wpF Try.prog Try.f45 [(28, .int .i64 0), (74, .int .i64 0)] [] [(5, [28], [0, 1, 6, 26, 27]), (12, [74], [0, 6, 72, 73])] [18] [.pointer (some m), .slice power.p power.n power.c] H R = F_heat_Model_Step R m power H := by kernel_rfl

theorem F_heat_Model_Step_ok {R : Value → Heap → Prop} (m : Addr) (power : Sl) {H : Heap} (h : F_heat_Model_Step R m power H) : CallsH Try.prog n_heat_Model_Step #[.pointer (some m), .slice power.p power.n power.c] H R :=
  wpF_ok Try.func45 (F_heat_Model_Step_eq R m power H) h

/-! ### 46: platformfw/perf.New -/

def F_perf_New (R : Value → Heap → Prop) (table : Sl) (p_0 : Int) (p_1 : Int) (p_2 : Int) (H : Heap) : Prop :=
  letH (H.push (.cells #[.int .i64 p_0, .int .i64 p_1, .int .i64 p_2] t_api_GovernorParams (0, 0))) (fun H1 : Heap =>
  CallsH Try.prog n_perf_Check #[.slice table.p table.n table.c] H1 (fun v H2 =>
  ∃ err : Int, v = .int .i64 err ∧ (
  iteB (err != (0 : Int)) (
  R (.tuple #[.pointer none, .int .i64 err]) H2) (
  ∃ x : Int, rd H2 (⟨H.size, 0, none⟩ : Addr) = some (.int .i64 x) ∧ (
  iteB (decide (x < (1 : Int))) (
  R (.tuple #[.pointer none, .int .i64 (1 : Int)]) H2) (
  ∃ x1 : Int, rd H2 (⟨H.size, 0, none⟩ : Addr) = some (.int .i64 x1) ∧ (
  iteB (decide (x1 > (100 : Int))) (
  R (.tuple #[.pointer none, .int .i64 (1 : Int)]) H2) (
  ∃ x2 : Int, rd H2 ((⟨H.size, 0, none⟩ : Addr).add 1) = some (.int .i64 x2) ∧ (
  iteB (decide (x2 < (0 : Int))) (
  R (.tuple #[.pointer none, .int .i64 (1 : Int)]) H2) (
  ∃ x3 : Int, rd H2 ((⟨H.size, 0, none⟩ : Addr).add 1) = some (.int .i64 x3) ∧ (
  ∃ x4 : Int, rd H2 (⟨H.size, 0, none⟩ : Addr) = some (.int .i64 x4) ∧ (
  iteB (decide (x3 ≥ x4)) (
  R (.tuple #[.pointer none, .int .i64 (1 : Int)]) H2) (
  ∃ x5 : Int, rd H2 ((⟨H.size, 0, none⟩ : Addr).add 2) = some (.int .i64 x5) ∧ (
  iteB (decide (x5 < (1 : Int))) (
  R (.tuple #[.pointer none, .int .i64 (1 : Int)]) H2) (
  ∃ x6 : Int, rd H2 ((⟨H.size, 0, none⟩ : Addr).add 2) = some (.int .i64 x6) ∧ (
  iteB (decide (x6 > (1000 : Int))) (
  R (.tuple #[.pointer none, .int .i64 (1 : Int)]) H2) (
  ∃ x7 : Int, rd H2 (⟨H.size, 0, none⟩ : Addr) = some (.int .i64 x7) ∧ ∃ x8 : Int, rd H2 ((⟨H.size, 0, none⟩ : Addr).add 1) = some (.int .i64 x8) ∧ ∃ x9 : Int, rd H2 ((⟨H.size, 0, none⟩ : Addr).add 2) = some (.int .i64 x9) ∧ (
  CallsH Try.prog n_slices_Clone_sl_api_OperatingPoint_api_OperatingPoint #[.slice table.p table.n table.c] H2 (fun v1 H3 =>
  ∃ x10 : Sl, v1 = .slice x10.p x10.n x10.c ∧ (
  Ext H2 H3 ∧ (
  letH (H3.push (.cells #[.slice x10.p x10.n x10.c, .int .i64 x7, .int .i64 x8, .int .i64 x9, .int .i64 (0 : Int), .int .i64 (IntKind.i64.wrap ((table.n : Int) - (1 : Int))), .int .i64 (0 : Int), .int .i64 (0 : Int)] t_perf_Governor (0, 0))) (fun H4 : Heap =>
  R (.tuple #[.pointer (some (⟨H3.size, 0, none⟩ : Addr)), .int .i64 (0 : Int)]) H4))))))))))))))))))))))

theorem F_perf_New_eq (R : Value → Heap → Prop) (table : Sl) (p_0 : Int) (p_1 : Int) (p_2 : Int) (H : Heap) : wpF Try.prog Try.f46 [] [] [] [18] [.slice table.p table.n table.c, .agg #[.int .i64 p_0, .int .i64 p_1, .int .i64 p_2]] H R = F_perf_New R table p_0 p_1 p_2 H := by kernel_rfl

theorem F_perf_New_ok {R : Value → Heap → Prop} (table : Sl) (p_0 : Int) (p_1 : Int) (p_2 : Int) {H : Heap} (h : F_perf_New R table p_0 p_1 p_2 H) : CallsH Try.prog n_perf_New #[.slice table.p table.n table.c, .agg #[.int .i64 p_0, .int .i64 p_1, .int .i64 p_2]] H R :=
  wpF_ok Try.func46 (F_perf_New_eq R table p_0 p_1 p_2 H) h

/-! ### 47: (*platformfw/perf.Governor).Limit -/

def F_perf_Governor_Limit (R : Value → Heap → Prop) (g : Addr) (low : Int) (high : Int) (H : Heap) : Prop :=
  iteB (decide (low < (0 : Int))) (
  R (.int .i64 (1 : Int)) H) (
  iteB (decide (low > high)) (
  R (.int .i64 (1 : Int)) H) (
  ∃ x : Sl, rd H g = some (.slice x.p x.n x.c) ∧ (
  iteB (decide (high ≥ (x.n : Int))) (
  R (.int .i64 (1 : Int)) H) (
  okRow H (g.add 4) 1 ∧ (
  letH (wrs H (g.add 4) [.int .i64 low]) (fun H1 : Heap =>
  okRow H1 (g.add 5) 1 ∧ (
  letH (wrs H1 (g.add 5) [.int .i64 high]) (fun H2 : Heap =>
  ∃ x1 : Int, rd H2 (g.add 6) = some (.int .i64 x1) ∧ (
  okRow H2 (g.add 6) 1 ∧ (
  letH (wrs H2 (g.add 6) [.int .i64 (if high < (if low > x1 then low else x1) then high else (if low > x1 then low else x1))]) (fun H3 : Heap =>
  okRow H3 (g.add 7) 1 ∧ (
  letH (wrs H3 (g.add 7) [.int .i64 (0 : Int)]) (fun H4 : Heap =>
  R (.int .i64 (0 : Int)) H4)))))))))))))

theorem F_perf_Governor_Limit_eq (R : Value → Heap → Prop) (g : Addr) (low : Int) (high : Int) (H : Heap) : wpF Try.prog Try.f47 [] [] [] [18] [.pointer (some g), .int .i64 low, .int .i64 high] H R = F_perf_Governor_Limit R g low high H := by kernel_rfl

theorem F_perf_Governor_Limit_ok {R : Value → Heap → Prop} (g : Addr) (low : Int) (high : Int) {H : Heap} (h : F_perf_Governor_Limit R g low high H) : CallsH Try.prog n_perf_Governor_Limit #[.pointer (some g), .int .i64 low, .int .i64 high] H R :=
  wpF_ok Try.func47 (F_perf_Governor_Limit_eq R g low high H) h

/-! ### 48: (*platformfw/perf.Governor).Sample -/

def F_perf_Governor_Sample_k1 (R : Value → Heap → Prop) (g : Addr) (H8 : Heap) : Prop :=
  ∃ x7 : Int, rd H8 (g.add 6) = some (.int .i64 x7) ∧ (
  R (.tuple #[.int .i64 x7, .int .i64 (0 : Int)]) H8)

def F_perf_Governor_Sample (R : Value → Heap → Prop) (g : Addr) (load : Int) (H : Heap) : Prop :=
  iteB (decide (load < (0 : Int))) (
  R (.tuple #[.int .i64 (0 : Int), .int .i64 (1 : Int)]) H) (
  iteB (decide (load > (100 : Int))) (
  R (.tuple #[.int .i64 (0 : Int), .int .i64 (1 : Int)]) H) (
  ∃ J_ : Heap → Prop, (
  ∃ x : Int, rd H (g.add 1) = some (.int .i64 x) ∧ (
  iteB (decide (load > x)) (
  ∃ x1 : Int, rd H (g.add 5) = some (.int .i64 x1) ∧ (
  okRow H (g.add 6) 1 ∧ (
  letH (wrs H (g.add 6) [.int .i64 x1]) (fun H1 : Heap =>
  okRow H1 (g.add 7) 1 ∧ (
  letH (wrs H1 (g.add 7) [.int .i64 (0 : Int)]) (fun H2 : Heap =>
  J_ H2)))))) (
  ∃ x2 : Int, rd H ((g.add 1).add 1) = some (.int .i64 x2) ∧ (
  iteB (decide (load < x2)) (
  ∃ x3 : Int, rd H (g.add 7) = some (.int .i64 x3) ∧ (
  okRow H (g.add 7) 1 ∧ (
  letH (wrs H (g.add 7) [.int .i64 (IntKind.i64.wrap (x3 + (1 : Int)))]) (fun H3 : Heap =>
  ∃ x4 : Int, rd H3 (g.add 7) = some (.int .i64 x4) ∧ (
  ∃ x5 : Int, rd H3 ((g.add 1).add 2) = some (.int .i64 x5) ∧ (
  iteB (decide (x4 ≥ x5)) (
  okRow H3 (g.add 7) 1 ∧ (
  letH (wrs H3 (g.add 7) [.int .i64 (0 : Int)]) (fun H4 : Heap =>
  CallsH Try.prog n_perf_Governor_sufficient #[.pointer (some g), .int .i64 load] H4 (fun v H5 =>
  ∃ x6 : Int, v = .int .i64 x6 ∧ (
  okRow H5 (g.add 6) 1 ∧ (
  letH (wrs H5 (g.add 6) [.int .i64 x6]) (fun H6 : Heap =>
  J_ H6))))))) (
  J_ H3))))))) (
  okRow H (g.add 7) 1 ∧ (
  letH (wrs H (g.add 7) [.int .i64 (0 : Int)]) (fun H7 : Heap =>
  J_ H7))))))) ∧ (∀ H8 : Heap, J_ H8 → F_perf_Governor_Sample_k1 R g H8)))

theorem F_perf_Governor_Sample_eq (R : Value → Heap → Prop) (g : Addr) (load : Int) (H : Heap) : wpF Try.prog Try.f48 [] [(12, [], [0])] [] [18] [.pointer (some g), .int .i64 load] H R = F_perf_Governor_Sample R g load H := by kernel_rfl

theorem F_perf_Governor_Sample_ok {R : Value → Heap → Prop} (g : Addr) (load : Int) {H : Heap} (h : F_perf_Governor_Sample R g load H) : CallsH Try.prog n_perf_Governor_Sample #[.pointer (some g), .int .i64 load] H R :=
  wpF_ok Try.func48 (F_perf_Governor_Sample_eq R g load H) h

/-! ### 49: slices.Clone[[]platformfw/api.Trip,platformfw/api.Trip] -/

def F_slices_Clone_sl_api_Trip_api_Trip (R : Value → Heap → Prop) (s : Sl) (H : Heap) : Prop :=
  iteB s.p.isNone (
  R (.slice none 0 0) H) (
  letH (H.push (.cells #[] t_api_Trip (0, 0))) (fun H1 : Heap =>
  runH Try.prog (Builtin.append_ #[t_sl_api_Trip, t_sl_api_Trip] t_sl_api_Trip #[.slice (some (⟨H.size, 0, none⟩ : Addr)) 0 0, .slice s.p s.n s.c]) H1 (fun v H2 =>
  ∃ x : Sl, v = .slice x.p x.n x.c ∧ (
  R (.slice x.p x.n x.c) H2))))

theorem F_slices_Clone_sl_api_Trip_api_Trip_eq (R : Value → Heap → Prop) (s : Sl) (H : Heap) : wpF Try.prog Try.f49 [] [] [] [18] [.slice s.p s.n s.c] H R = F_slices_Clone_sl_api_Trip_api_Trip R s H := by kernel_rfl

theorem F_slices_Clone_sl_api_Trip_api_Trip_ok {R : Value → Heap → Prop} (s : Sl) {H : Heap} (h : F_slices_Clone_sl_api_Trip_api_Trip R s H) : CallsH Try.prog n_slices_Clone_sl_api_Trip_api_Trip #[.slice s.p s.n s.c] H R :=
  wpF_ok Try.func49 (F_slices_Clone_sl_api_Trip_api_Trip_eq R s H) h

/-! ### 50: platformfw/thermal.validActors -/

def F_thermal_validActors_r1 (R : Value → Heap → Prop) (actors : Sl) (I_ : Int → Heap → Prop) (M_ : Int → Heap → Nat) (x : Int) (H1 : Heap) : Prop :=
  iteB (decide (x < (actors.n : Int))) (
  0 ≤ x ∧ x < (actors.n : Int) ∧ (unSome actors.p (fun a =>
  ∃ x1 : Int, rd H1 (a.add (x.toNat * 3)) = some (.int .u64 x1) ∧ ∃ x2 : Int, rd H1 ((a.add (x.toNat * 3)).add 1) = some (.int .u64 x2) ∧ ∃ x3 : Int, rd H1 ((a.add (x.toNat * 3)).add 2) = some (.int .u64 x3) ∧ (
  letH (H1.push (.cells #[.int .u64 (0 : Int), .int .u64 (0 : Int), .int .u64 (0 : Int)] t_api_Actor (0, 0))) (fun H2 : Heap =>
  okRow H2 (⟨H1.size, 0, none⟩ : Addr) 3 ∧ (
  letH (wrs H2 (⟨H1.size, 0, none⟩ : Addr) [.int .u64 x1, .int .u64 x2, .int .u64 x3]) (fun H3 : Heap =>
  ∃ x4 : Int, rd H3 ((⟨H1.size, 0, none⟩ : Addr).add 1) = some (.int .u64 x4) ∧ (
  ∃ x5 : Int, rd H3 ((⟨H1.size, 0, none⟩ : Addr).add 2) = some (.int .u64 x5) ∧ (
  iteB (decide (x4 > x5)) (
  R (.bool false) H3) (
  ∃ x6 : Int, rd H3 ((⟨H1.size, 0, none⟩ : Addr).add 2) = some (.int .u64 x6) ∧ (
  iteB (decide (x6 > (4294967296 : Int))) (
  R (.bool false) H3) (
  I_ (IntKind.i64.wrap (x + (1 : Int))) H3 ∧ M_ (IntKind.i64.wrap (x + (1 : Int))) H3 < M_ x H1)))))))))))) (
  R (.bool true) H1)

def F_thermal_validActors (R : Value → Heap → Prop) (actors : Sl) (H : Heap) : Prop :=
  iteB (decide ((actors.n : Int) > (32 : Int))) (
  R (.bool false) H) (
  ∃ I_ : Int → Heap → Prop, ∃ M_ : Int → Heap → Nat, I_ (0 : Int) H ∧ (∀ x : Int, ∀ H1 : Heap, I_ x H1 → F_thermal_validActors_r1 R actors I_ M_ x H1))

theorem F_thermal_validActors_eq (R : Value → Heap → Prop) (actors : Sl) (H : Heap) : wpF Try.prog Try.f50 [(10, .int .i64 0)] [] [(4, [10], [8, 9])] [18] [.slice actors.p actors.n actors.c] H R = F_thermal_validActors R actors H := by kernel_rfl

theorem F_thermal_validActors_ok {R : Value → Heap → Prop} (actors : Sl) {H : Heap} (h : F_thermal_validActors R actors H) : CallsH Try.prog n_thermal_validActors #[.slice actors.p actors.n actors.c] H R :=
  wpF_ok Try.func50 (F_thermal_validActors_eq R actors H) h

/-! ### 51: platformfw/thermal.total -/

def F_thermal_total_r1 (R : Value → Heap → Prop) (actors : Sl) (level : Int) (I_ : Int → Int → Heap → Prop) (M_ : Int → Int → Heap → Nat) (sum : Int) (x : Int) (H1 : Heap) : Prop :=
  iteB (decide (x < (actors.n : Int))) (
  0 ≤ x ∧ x < (actors.n : Int) ∧ (unSome actors.p (fun a =>
  ∃ x1 : Int, rd H1 (a.add (x.toNat * 3)) = some (.int .u64 x1) ∧ ∃ x2 : Int, rd H1 ((a.add (x.toNat * 3)).add 1) = some (.int .u64 x2) ∧ ∃ x3 : Int, rd H1 ((a.add (x.toNat * 3)).add 2) = some (.int .u64 x3) ∧ (
  letH (H1.push (.cells #[.int .u64 (0 : Int), .int .u64 (0 : Int), .int .u64 (0 : Int)] t_api_Actor (0, 0))) (fun H2 : Heap =>
  okRow H2 (⟨H1.size, 0, none⟩ : Addr) 3 ∧ (
  letH (wrs H2 (⟨H1.size, 0, none⟩ : Addr) [.int .u64 x1, .int .u64 x2, .int .u64 x3]) (fun H3 : Heap =>
  ∃ x4 : Int, rd H3 (⟨H1.size, 0, none⟩ : Addr) = some (.int .u64 x4) ∧ ∃ x5 : Int, rd H3 ((⟨H1.size, 0, none⟩ : Addr).add 1) = some (.int .u64 x5) ∧ ∃ x6 : Int, rd H3 ((⟨H1.size, 0, none⟩ : Addr).add 2) = some (.int .u64 x6) ∧ (
  CallsH Try.prog n_thermal_at #[.agg #[.int .u64 x4, .int .u64 x5, .int .u64 x6], .int .u64 level] H3 (fun v H4 =>
  ∃ x7 : Int, v = .int .u64 x7 ∧ (
  letV (IntKind.u64.wrap (sum + x7)) (fun sum1 : Int =>
  I_ sum1 (IntKind.i64.wrap (x + (1 : Int))) H4 ∧ M_ sum1 (IntKind.i64.wrap (x + (1 : Int))) H4 < M_ sum x H1))))))))))) (
  R (.int .u64 sum) H1)

def F_thermal_total (R : Value → Heap → Prop) (actors : Sl) (level : Int) (H : Heap) : Prop :=
  ∃ I_ : Int → Int → Heap → Prop, ∃ M_ : Int → Int → Heap → Nat, I_ (0 : Int) (0 : Int) H ∧ (∀ sum : Int, ∀ x : Int, ∀ H1 : Heap, I_ sum x H1 → F_thermal_total_r1 R actors level I_ M_ sum x H1)

theorem F_thermal_total_eq (R : Value → Heap → Prop) (actors : Sl) (level : Int) (H : Heap) : wpF Try.prog Try.f51 [(5, .int .u64 0), (10, .int .i64 0)] [] [(3, [5, 10], [1, 8, 9])] [18] [.slice actors.p actors.n actors.c, .int .u64 level] H R = F_thermal_total R actors level H := by kernel_rfl

theorem F_thermal_total_ok {R : Value → Heap → Prop} (actors : Sl) (level : Int) {H : Heap} (h : F_thermal_total R actors level H) : CallsH Try.prog n_thermal_total #[.slice actors.p actors.n actors.c, .int .u64 level] H R :=
  wpF_ok Try.func51 (F_thermal_total_eq R actors level H) h

/-! ### 52: platformfw/thermal.at -/

def F_thermal_at (R : Value → Heap → Prop) (a_0 : Int) (a_1 : Int) (a_2 : Int) (level : Int) (H : Heap) : Prop :=
  letH (H.push (.cells #[.int .u64 a_0, .int .u64 a_1, .int .u64 a_2] t_api_Actor (0, 0))) (fun H1 : Heap =>
  ∃ x : Int, rd H1 ((⟨H.size, 0, none⟩ : Addr).add 1) = some (.int .u64 x) ∧ (
  ∃ x1 : Int, rd H1 (⟨H.size, 0, none⟩ : Addr) = some (.int .u64 x1) ∧ ∃ x2 : Int, rd H1 ((⟨H.size, 0, none⟩ : Addr).add 1) = some (.int .u64 x2) ∧ ∃ x3 : Int, rd H1 ((⟨H.size, 0, none⟩ : Addr).add 2) = some (.int .u64 x3) ∧ (
  CallsH Try.prog n_thermal_want #[.agg #[.int .u64 x1, .int .u64 x2, .int .u64 x3]] H1 (fun v H2 =>
  ∃ x4 : Int, v = .int .u64 x4 ∧ (
  Ext H1 H2 ∧ (
  letV (if x4 < (if x > level then x else level) then x4 else (if x > level then x else level)) (fun x5 : Int =>
  R (.int .u64 x5) H2)))))))

theorem F_thermal_at_eq (R : Value → Heap → Prop) (a_0 : Int) (a_1 : Int) (a_2 : Int) (level : Int) (H : Heap) : wpF Try.prog Try.f52 [] [] [] [18] [.agg #[.int .u64 a_0, .int .u64 a_1, .int .u64 a_2], .int .u64 level] H R = F_thermal_at R a_0 a_1 a_2 level H := by kernel_rfl

theorem F_thermal_at_ok {R : Value → Heap → Prop} (a_0 : Int) (a_1 : Int) (a_2 : Int) (level : Int) {H : Heap} (h : F_thermal_at R a_0 a_1 a_2 level H) : CallsH Try.prog n_thermal_at #[.agg #[.int .u64 a_0, .int .u64 a_1, .int .u64 a_2], .int .u64 level] H R :=
  wpF_ok Try.func52 (F_thermal_at_eq R a_0 a_1 a_2 level H) h

/-! ### 53: platformfw/thermal.want -/

def F_thermal_want (R : Value → Heap → Prop) (a_0 : Int) (a_1 : Int) (a_2 : Int) (H : Heap) : Prop :=
  letH (H.push (.cells #[.int .u64 a_0, .int .u64 a_1, .int .u64 a_2] t_api_Actor (0, 0))) (fun H1 : Heap =>
  ∃ x : Int, rd H1 (⟨H.size, 0, none⟩ : Addr) = some (.int .u64 x) ∧ (
  ∃ x1 : Int, rd H1 ((⟨H.size, 0, none⟩ : Addr).add 1) = some (.int .u64 x1) ∧ (
  ∃ x2 : Int, rd H1 ((⟨H.size, 0, none⟩ : Addr).add 2) = some (.int .u64 x2) ∧ (
  letV (if x2 < (if x1 > x then x1 else x) then x2 else (if x1 > x then x1 else x)) (fun x3 : Int =>
  R (.int .u64 x3) H1)))))

theorem F_thermal_want_eq (R : Value → Heap → Prop) (a_0 : Int) (a_1 : Int) (a_2 : Int) (H : Heap) : wpF Try.prog Try.f53 [] [] [] [18] [.agg #[.int .u64 a_0, .int .u64 a_1, .int .u64 a_2]] H R = F_thermal_want R a_0 a_1 a_2 H := by kernel_rfl

theorem F_thermal_want_ok {R : Value → Heap → Prop} (a_0 : Int) (a_1 : Int) (a_2 : Int) {H : Heap} (h : F_thermal_want R a_0 a_1 a_2 H) : CallsH Try.prog n_thermal_want #[.agg #[.int .u64 a_0, .int .u64 a_1, .int .u64 a_2]] H R :=
  wpF_ok Try.func53 (F_thermal_want_eq R a_0 a_1 a_2 H) h

/-! ### 54: platformfw/platformfwref39.valid -/

def F_ref39_valid_r1 (R : Value → Heap → Prop) (actors : Sl) (I_ : Int → Heap → Prop) (M_ : Int → Heap → Nat) (i : Int) (H1 : Heap) : Prop :=
  iteB (decide (i < (actors.n : Int))) (
  0 ≤ i ∧ i < (actors.n : Int) ∧ (unSome actors.p (fun a =>
  ∃ x : Int, rd H1 ((a.add (i.toNat * 3)).add 1) = some (.int .u64 x) ∧ (
  0 ≤ i ∧ i < (actors.n : Int) ∧ (unSome actors.p (fun a1 =>
  ∃ x1 : Int, rd H1 ((a1.add (i.toNat * 3)).add 2) = some (.int .u64 x1) ∧ (
  iteB (decide (x > x1)) (
  R (.bool false) H1) (
  0 ≤ i ∧ i < (actors.n : Int) ∧ (unSome actors.p (fun a2 =>
  ∃ x2 : Int, rd H1 ((a2.add (i.toNat * 3)).add 2) = some (.int .u64 x2) ∧ (
  iteB (decide (x2 > (4294967296 : Int))) (
  R (.bool false) H1) (
  letV (IntKind.i64.wrap (i + (1 : Int))) (fun i1 : Int =>
  I_ i1 H1 ∧ M_ i1 H1 < M_ i H1))))))))))))) (
  R (.bool true) H1)

def F_ref39_valid (R : Value → Heap → Prop) (actors : Sl) (H : Heap) : Prop :=
  iteB (decide ((actors.n : Int) > (32 : Int))) (
  R (.bool false) H) (
  ∃ I_ : Int → Heap → Prop, ∃ M_ : Int → Heap → Nat, I_ (0 : Int) H ∧ (∀ i : Int, ∀ H1 : Heap, I_ i H1 → F_ref39_valid_r1 R actors I_ M_ i H1))

theorem F_ref39_valid_eq (R : Value → Heap → Prop) (actors : Sl) (H : Heap) : wpF Try.prog Try.f54 [(3, .int .i64 0)] [] [(4, [3], [0])] [18] [.slice actors.p actors.n actors.c] H R = F_ref39_valid R actors H := by kernel_rfl

theorem F_ref39_valid_ok {R : Value → Heap → Prop} (actors : Sl) {H : Heap} (h : F_ref39_valid R actors H) : CallsH Try.prog n_ref39_valid #[.slice actors.p actors.n actors.c] H R :=
  wpF_ok Try.func54 (F_ref39_valid_eq R actors H) h

/-! ### 55: platformfw/platformfwref39.at -/

def F_ref39_at_r1 (R : Value → Heap → Prop) (actors : Sl) (l : Int) (I_ : Sl → Int → Int → Heap → Prop) (M_ : Sl → Int → Int → Heap → Nat) (out : Sl) (sum : Int) (i : Int) (H1 : Heap) : Prop :=
  iteB (decide (i < (actors.n : Int))) (
  0 ≤ i ∧ i < (actors.n : Int) ∧ (unSome actors.p (fun a =>
  ∃ x : Int, rd H1 ((a.add (i.toNat * 3)).add 1) = some (.int .u64 x) ∧ (
  0 ≤ i ∧ i < (actors.n : Int) ∧ (unSome actors.p (fun a1 =>
  ∃ x1 : Int, rd H1 (a1.add (i.toNat * 3)) = some (.int .u64 x1) ∧ ∃ x2 : Int, rd H1 ((a1.add (i.toNat * 3)).add 1) = some (.int .u64 x2) ∧ ∃ x3 : Int, rd H1 ((a1.add (i.toNat * 3)).add 2) = some (.int .u64 x3) ∧ (
  CallsH Try.prog n_ref39_want #[.agg #[.int .u64 x1, .int .u64 x2, .int .u64 x3]] H1 (fun v H2 =>
  ∃ x4 : Int, v = .int .u64 x4 ∧ (
  Ext H1 H2 ∧ (
  letV (if x4 < (if x > l then x else l) then x4 else (if x > l then x else l)) (fun g : Int =>
  letH (H2.push (.cells #[.int .u64 g] t_uint64 (0, 0))) (fun H3 : Heap =>
  runH Try.prog (Builtin.append_ #[t_sl_uint64, t_sl_uint64] t_sl_uint64 #[.slice out.p out.n out.c, .slice (some (⟨H2.size, 0, none⟩ : Addr)) 1 1]) H3 (fun v1 H4 =>
  ∃ out1 : Sl, v1 = .slice out1.p out1.n out1.c ∧ (
  letV (IntKind.u64.wrap (sum + g)) (fun sum1 : Int =>
  letV (IntKind.i64.wrap (i + (1 : Int))) (fun i1 : Int =>
  I_ out1 sum1 i1 H4 ∧ M_ out1 sum1 i1 H4 < M_ out sum i H1)))))))))))))))) (
  R (.tuple #[.slice out.p out.n out.c, .int .u64 sum]) H1)

def F_ref39_at (R : Value → Heap → Prop) (actors : Sl) (l : Int) (H : Heap) : Prop :=
  ∃ I_ : Sl → Int → Int → Heap → Prop, ∃ M_ : Sl → Int → Int → Heap → Nat, I_ (Sl.mk none 0 0) (0 : Int) (0 : Int) H ∧ (∀ out : Sl, ∀ sum : Int, ∀ i : Int, ∀ H1 : Heap, I_ out sum i H1 → F_ref39_at_r1 R actors l I_ M_ out sum i H1)

theorem F_ref39_at_eq (R : Value → Heap → Prop) (actors : Sl) (l : Int) (H : Heap) : wpF Try.prog Try.f55 [(6, .slice none 0 0), (7, .int .u64 0), (8, .int .i64 0)] [] [(4, [6, 7, 8], [0, 1])] [18] [.slice actors.p actors.n actors.c, .int .u64 l] H R = F_ref39_at R actors l H := by kernel_rfl

theorem F_ref39_at_ok {R : Value → Heap → Prop} (actors : Sl) (l : Int) {H : Heap} (h : F_ref39_at R actors l H) : CallsH Try.prog n_ref39_at #[.slice actors.p actors.n actors.c, .int .u64 l] H R :=
  wpF_ok Try.func55 (F_ref39_at_eq R actors l H) h

/-! ### 56: platformfw/platformfwref39.want -/

def F_ref39_want (R : Value → Heap → Prop) (a_0 : Int) (a_1 : Int) (a_2 : Int) (H : Heap) : Prop :=
  letH (H.push (.cells #[.int .u64 a_0, .int .u64 a_1, .int .u64 a_2] t_api_Actor (0, 0))) (fun H1 : Heap =>
  ∃ x : Int, rd H1 (⟨H.size, 0, none⟩ : Addr) = some (.int .u64 x) ∧ (
  ∃ x1 : Int, rd H1 ((⟨H.size, 0, none⟩ : Addr).add 1) = some (.int .u64 x1) ∧ (
  ∃ x2 : Int, rd H1 ((⟨H.size, 0, none⟩ : Addr).add 2) = some (.int .u64 x2) ∧ (
  letV (if x2 < (if x1 > x then x1 else x) then x2 else (if x1 > x then x1 else x)) (fun x3 : Int =>
  R (.int .u64 x3) H1)))))

theorem F_ref39_want_eq (R : Value → Heap → Prop) (a_0 : Int) (a_1 : Int) (a_2 : Int) (H : Heap) : wpF Try.prog Try.f56 [] [] [] [18] [.agg #[.int .u64 a_0, .int .u64 a_1, .int .u64 a_2]] H R = F_ref39_want R a_0 a_1 a_2 H := by kernel_rfl

theorem F_ref39_want_ok {R : Value → Heap → Prop} (a_0 : Int) (a_1 : Int) (a_2 : Int) {H : Heap} (h : F_ref39_want R a_0 a_1 a_2 H) : CallsH Try.prog n_ref39_want #[.agg #[.int .u64 a_0, .int .u64 a_1, .int .u64 a_2]] H R :=
  wpF_ok Try.func56 (F_ref39_want_eq R a_0 a_1 a_2 H) h

/-! ### 57: slices.Clone[[]bool,bool] -/

def F_slices_Clone_sl_bool_bool (R : Value → Heap → Prop) (s : Sl) (H : Heap) : Prop :=
  iteB s.p.isNone (
  R (.slice none 0 0) H) (
  letH (H.push (.cells #[] t_bool (0, 0))) (fun H1 : Heap =>
  runH Try.prog (Builtin.append_ #[t_sl_bool, t_sl_bool] t_sl_bool #[.slice (some (⟨H.size, 0, none⟩ : Addr)) 0 0, .slice s.p s.n s.c]) H1 (fun v H2 =>
  ∃ x : Sl, v = .slice x.p x.n x.c ∧ (
  R (.slice x.p x.n x.c) H2))))

theorem F_slices_Clone_sl_bool_bool_eq (R : Value → Heap → Prop) (s : Sl) (H : Heap) : wpF Try.prog Try.f57 [] [] [] [18] [.slice s.p s.n s.c] H R = F_slices_Clone_sl_bool_bool R s H := by kernel_rfl

theorem F_slices_Clone_sl_bool_bool_ok {R : Value → Heap → Prop} (s : Sl) {H : Heap} (h : F_slices_Clone_sl_bool_bool R s H) : CallsH Try.prog n_slices_Clone_sl_bool_bool #[.slice s.p s.n s.c] H R :=
  wpF_ok Try.func57 (F_slices_Clone_sl_bool_bool_eq R s H) h

/-! ### 58: platformfw/perf.Check -/

def F_perf_Check_r1 (R : Value → Heap → Prop) (table : Sl) (I_ : Int → Heap → Prop) (M_ : Int → Heap → Nat) (x : Int) (H1 : Heap) : Prop :=
  iteB (decide (x < (table.n : Int))) (
  0 ≤ x ∧ x < (table.n : Int) ∧ (unSome table.p (fun a =>
  ∃ x1 : Int, rd H1 (a.add (x.toNat * 3)) = some (.int .u64 x1) ∧ ∃ x2 : Int, rd H1 ((a.add (x.toNat * 3)).add 1) = some (.int .u64 x2) ∧ ∃ x3 : Int, rd H1 ((a.add (x.toNat * 3)).add 2) = some (.int .u64 x3) ∧ (
  letH (H1.push (.cells #[.int .u64 (0 : Int), .int .u64 (0 : Int), .int .u64 (0 : Int)] t_api_OperatingPoint (0, 0))) (fun H2 : Heap =>
  okRow H2 (⟨H1.size, 0, none⟩ : Addr) 3 ∧ (
  letH (wrs H2 (⟨H1.size, 0, none⟩ : Addr) [.int .u64 x1, .int .u64 x2, .int .u64 x3]) (fun H3 : Heap =>
  ∃ x4 : Int, rd H3 (⟨H1.size, 0, none⟩ : Addr) = some (.int .u64 x4) ∧ (
  iteB (decide (x4 < (1 : Int))) (
  R (.int .i64 (1 : Int)) H3) (
  ∃ x5 : Int, rd H3 (⟨H1.size, 0, none⟩ : Addr) = some (.int .u64 x5) ∧ (
  iteB (decide (x5 > (1099511627776 : Int))) (
  R (.int .i64 (1 : Int)) H3) (
  ∃ x6 : Int, rd H3 ((⟨H1.size, 0, none⟩ : Addr).add 1) = some (.int .u64 x6) ∧ (
  iteB (decide (x6 > (1099511627776 : Int))) (
  R (.int .i64 (1 : Int)) H3) (
  ∃ x7 : Int, rd H3 ((⟨H1.size, 0, none⟩ : Addr).add 2) = some (.int .u64 x7) ∧ (
  iteB (decide (x7 > (1099511627776 : Int))) (
  R (.int .i64 (1 : Int)) H3) (
  iteB (x == (0 : Int)) (
  I_ (IntKind.i64.wrap (x + (1 : Int))) H3 ∧ M_ (IntKind.i64.wrap (x + (1 : Int))) H3 < M_ x H1) (
  0 ≤ (IntKind.i64.wrap (x - (1 : Int))) ∧ (IntKind.i64.wrap (x - (1 : Int))) < (table.n : Int) ∧ (unSome table.p (fun a1 =>
  ∃ x8 : Int, rd H3 (a1.add ((IntKind.i64.wrap (x - (1 : Int))).toNat * 3)) = some (.int .u64 x8) ∧ ∃ x9 : Int, rd H3 ((a1.add ((IntKind.i64.wrap (x - (1 : Int))).toNat * 3)).add 1) = some (.int .u64 x9) ∧ ∃ x10 : Int, rd H3 ((a1.add ((IntKind.i64.wrap (x - (1 : Int))).toNat * 3)).add 2) = some (.int .u64 x10) ∧ (
  letH (H3.push (.cells #[.int .u64 (0 : Int), .int .u64 (0 : Int), .int .u64 (0 : Int)] t_api_OperatingPoint (0, 0))) (fun H4 : Heap =>
  okRow H4 (⟨H3.size, 0, none⟩ : Addr) 3 ∧ (
  letH (wrs H4 (⟨H3.size, 0, none⟩ : Addr) [.int .u64 x8, .int .u64 x9, .int .u64 x10]) (fun H5 : Heap =>
  ∃ x11 : Int, rd H5 (⟨H1.size, 0, none⟩ : Addr) = some (.int .u64 x11) ∧ (
  ∃ x12 : Int, rd H5 (⟨H3.size, 0, none⟩ : Addr) = some (.int .u64 x12) ∧ (
  iteB (decide (x11 ≤ x12)) (
  R (.int .i64 (1 : Int)) H5) (
  ∃ x13 : Int, rd H5 ((⟨H1.size, 0, none⟩ : Addr).add 1) = some (.int .u64 x13) ∧ (
  ∃ x14 : Int, rd H5 ((⟨H3.size, 0, none⟩ : Addr).add 1) = some (.int .u64 x14) ∧ (
  iteB (decide (x13 < x14)) (
  R (.int .i64 (1 : Int)) H5) (
  ∃ x15 : Int, rd H5 ((⟨H1.size, 0, none⟩ : Addr).add 2) = some (.int .u64 x15) ∧ (
  ∃ x16 : Int, rd H5 ((⟨H3.size, 0, none⟩ : Addr).add 2) = some (.int .u64 x16) ∧ (
  iteB (decide (x15 < x16)) (
  R (.int .i64 (1 : Int)) H5) (
  I_ (IntKind.i64.wrap (x + (1 : Int))) H5 ∧ M_ (IntKind.i64.wrap (x + (1 : Int))) H5 < M_ x H1))))))))))))))))))))))))))))))) (
  R (.int .i64 (0 : Int)) H1)

def F_perf_Check (R : Value → Heap → Prop) (table : Sl) (H : Heap) : Prop :=
  iteB (decide ((table.n : Int) < (1 : Int))) (
  R (.int .i64 (1 : Int)) H) (
  iteB (decide ((table.n : Int) > (16 : Int))) (
  R (.int .i64 (1 : Int)) H) (
  ∃ I_ : Int → Heap → Prop, ∃ M_ : Int → Heap → Nat, I_ (0 : Int) H ∧ (∀ x : Int, ∀ H1 : Heap, I_ x H1 → F_perf_Check_r1 R table I_ M_ x H1)))

theorem F_perf_Check_eq (R : Value → Heap → Prop) (table : Sl) (H : Heap) : wpF Try.prog Try.f58 [(16, .int .i64 0)] [] [(4, [16], [0, 14, 15])] [18] [.slice table.p table.n table.c] H R = F_perf_Check R table H := by kernel_rfl

theorem F_perf_Check_ok {R : Value → Heap → Prop} (table : Sl) {H : Heap} (h : F_perf_Check R table H) : CallsH Try.prog n_perf_Check #[.slice table.p table.n table.c] H R :=
  wpF_ok Try.func58 (F_perf_Check_eq R table H) h

/-! ### 59: platformfw/platformfwref36.Check -/

def F_ref36_Check_r1 (R : Value → Heap → Prop) (table : Sl) (I_ : Int → Heap → Prop) (M_ : Int → Heap → Nat) (i : Int) (H1 : Heap) : Prop :=
  iteB (decide (i < (table.n : Int))) (
  0 ≤ i ∧ i < (table.n : Int) ∧ (unSome table.p (fun a =>
  ∃ x : Int, rd H1 (a.add (i.toNat * 3)) = some (.int .u64 x) ∧ ∃ x1 : Int, rd H1 ((a.add (i.toNat * 3)).add 1) = some (.int .u64 x1) ∧ ∃ x2 : Int, rd H1 ((a.add (i.toNat * 3)).add 2) = some (.int .u64 x2) ∧ (
  letH (H1.push (.cells #[.int .u64 (0 : Int), .int .u64 (0 : Int), .int .u64 (0 : Int)] t_api_OperatingPoint (0, 0))) (fun H2 : Heap =>
  okRow H2 (⟨H1.size, 0, none⟩ : Addr) 3 ∧ (
  letH (wrs H2 (⟨H1.size, 0, none⟩ : Addr) [.int .u64 x, .int .u64 x1, .int .u64 x2]) (fun H3 : Heap =>
  ∃ x3 : Int, rd H3 (⟨H1.size, 0, none⟩ : Addr) = some (.int .u64 x3) ∧ (
  iteB (decide (x3 < (1 : Int))) (
  R (.int .i64 (1 : Int)) H3) (
  ∃ x4 : Int, rd H3 (⟨H1.size, 0, none⟩ : Addr) = some (.int .u64 x4) ∧ (
  iteB (decide (x4 > (1099511627776 : Int))) (
  R (.int .i64 (1 : Int)) H3) (
  ∃ x5 : Int, rd H3 ((⟨H1.size, 0, none⟩ : Addr).add 1) = some (.int .u64 x5) ∧ (
  iteB (decide (x5 > (1099511627776 : Int))) (
  R (.int .i64 (1 : Int)) H3) (
  ∃ x6 : Int, rd H3 ((⟨H1.size, 0, none⟩ : Addr).add 2) = some (.int .u64 x6) ∧ (
  iteB (decide (x6 > (1099511627776 : Int))) (
  R (.int .i64 (1 : Int)) H3) (
  iteB (decide (i > (0 : Int))) (
  ∃ x7 : Int, rd H3 (⟨H1.size, 0, none⟩ : Addr) = some (.int .u64 x7) ∧ (
  0 ≤ (IntKind.i64.wrap (i - (1 : Int))) ∧ (IntKind.i64.wrap (i - (1 : Int))) < (table.n : Int) ∧ (unSome table.p (fun a1 =>
  ∃ x8 : Int, rd H3 (a1.add ((IntKind.i64.wrap (i - (1 : Int))).toNat * 3)) = some (.int .u64 x8) ∧ (
  iteB (decide (x7 ≤ x8)) (
  R (.int .i64 (1 : Int)) H3) (
  ∃ x9 : Int, rd H3 ((⟨H1.size, 0, none⟩ : Addr).add 1) = some (.int .u64 x9) ∧ (
  0 ≤ (IntKind.i64.wrap (i - (1 : Int))) ∧ (IntKind.i64.wrap (i - (1 : Int))) < (table.n : Int) ∧ (unSome table.p (fun a2 =>
  ∃ x10 : Int, rd H3 ((a2.add ((IntKind.i64.wrap (i - (1 : Int))).toNat * 3)).add 1) = some (.int .u64 x10) ∧ (
  iteB (decide (x9 < x10)) (
  R (.int .i64 (1 : Int)) H3) (
  ∃ x11 : Int, rd H3 ((⟨H1.size, 0, none⟩ : Addr).add 2) = some (.int .u64 x11) ∧ (
  0 ≤ (IntKind.i64.wrap (i - (1 : Int))) ∧ (IntKind.i64.wrap (i - (1 : Int))) < (table.n : Int) ∧ (unSome table.p (fun a3 =>
  ∃ x12 : Int, rd H3 ((a3.add ((IntKind.i64.wrap (i - (1 : Int))).toNat * 3)).add 2) = some (.int .u64 x12) ∧ (
  iteB (decide (x11 < x12)) (
  R (.int .i64 (1 : Int)) H3) (
  letV (IntKind.i64.wrap (i + (1 : Int))) (fun i1 : Int =>
  I_ i1 H3 ∧ M_ i1 H3 < M_ i H1))))))))))))))))) (
  letV (IntKind.i64.wrap (i + (1 : Int))) (fun i2 : Int =>
  I_ i2 H3 ∧ M_ i2 H3 < M_ i H1))))))))))))))))) (
  R (.int .i64 (0 : Int)) H1)

def F_ref36_Check (R : Value → Heap → Prop) (table : Sl) (H : Heap) : Prop :=
  iteB (decide ((table.n : Int) < (1 : Int))) (
  R (.int .i64 (1 : Int)) H) (
  iteB (decide ((table.n : Int) > (16 : Int))) (
  R (.int .i64 (1 : Int)) H) (
  ∃ I_ : Int → Heap → Prop, ∃ M_ : Int → Heap → Nat, I_ (0 : Int) H ∧ (∀ i : Int, ∀ H1 : Heap, I_ i H1 → F_ref36_Check_r1 R table I_ M_ i H1)))

theorem F_ref36_Check_eq (R : Value → Heap → Prop) (table : Sl) (H : Heap) : wpF Try.prog Try.f59 [(3, .int .i64 0)] [] [(4, [3], [0])] [18] [.slice table.p table.n table.c] H R = F_ref36_Check R table H := by kernel_rfl

theorem F_ref36_Check_ok {R : Value → Heap → Prop} (table : Sl) {H : Heap} (h : F_ref36_Check R table H) : CallsH Try.prog n_ref36_Check #[.slice table.p table.n table.c] H R :=
  wpF_ok Try.func59 (F_ref36_Check_eq R table H) h

/-! ### 60: platformfw/heat.valid -/

def F_heat_valid_r1 (R : Value → Heap → Prop) (H : Heap) (domains : Sl) (I_2 : Int → Heap → Prop) (M_2 : Int → Heap → Nat) (x31 : Int) (H14 : Heap) : Prop :=
  iteB (decide (x31 < (domains.n : Int))) (
  0 ≤ x31 ∧ x31 < (domains.n : Int) ∧ (unSome domains.p (fun a2 =>
  ∃ x32 : Int, rd H14 (a2.add (x31.toNat * 2)) = some (.int .i64 x32) ∧ ∃ x33 : Int, rd H14 ((a2.add (x31.toNat * 2)).add 1) = some (.int .i64 x33) ∧ (
  letH (H14.push (.cells #[.int .i64 (0 : Int), .int .i64 (0 : Int)] t_api_HeatDomain (0, 0))) (fun H15 : Heap =>
  okRow H15 (⟨H14.size, 0, none⟩ : Addr) 2 ∧ (
  letH (wrs H15 (⟨H14.size, 0, none⟩ : Addr) [.int .i64 x32, .int .i64 x33]) (fun H16 : Heap =>
  ∃ x34 : Int, rd H16 (⟨H14.size, 0, none⟩ : Addr) = some (.int .i64 x34) ∧ (
  0 ≤ x31 ∧ x31 < ((domains.n : Int).toNat : Int) ∧ (∃ x35 : Int, rd H16 ((⟨H.size, 0, none⟩ : Addr).add (x31.toNat * 1)) = some (.int .i64 x35) ∧ (
  iteB (decide (x34 < x35)) (
  R (.bool false) H16) (
  ∃ x36 : Int, rd H16 (⟨H14.size, 0, none⟩ : Addr) = some (.int .i64 x36) ∧ (
  iteB (decide (x36 > (16777216 : Int))) (
  R (.bool false) H16) (
  I_2 (IntKind.i64.wrap (x31 + (1 : Int))) H16 ∧ M_2 (IntKind.i64.wrap (x31 + (1 : Int))) H16 < M_2 x31 H14))))))))))))) (
  R (.bool true) H14)

def F_heat_valid_r2 (R : Value → Heap → Prop) (H : Heap) (domains : Sl) (links : Sl) (H2 : Heap) (I_1 : Int → Heap → Prop) (M_1 : Int → Heap → Nat) (x6 : Int) (H7 : Heap) : Prop :=
  iteB (decide (x6 < (links.n : Int))) (
  0 ≤ x6 ∧ x6 < (links.n : Int) ∧ (unSome links.p (fun a1 =>
  ∃ x7 : Int, rd H7 (a1.add (x6.toNat * 3)) = some (.int .i64 x7) ∧ ∃ x8 : Int, rd H7 ((a1.add (x6.toNat * 3)).add 1) = some (.int .i64 x8) ∧ ∃ x9 : Int, rd H7 ((a1.add (x6.toNat * 3)).add 2) = some (.int .i64 x9) ∧ (
  letH (H7.push (.cells #[.int .i64 (0 : Int), .int .i64 (0 : Int), .int .i64 (0 : Int)] t_api_HeatLink (0, 0))) (fun H8 : Heap =>
  okRow H8 (⟨H7.size, 0, none⟩ : Addr) 3 ∧ (
  letH (wrs H8 (⟨H7.size, 0, none⟩ : Addr) [.int .i64 x7, .int .i64 x8, .int .i64 x9]) (fun H9 : Heap =>
  ∃ x10 : Int, rd H9 (⟨H7.size, 0, none⟩ : Addr) = some (.int .i64 x10) ∧ (
  iteB (decide (x10 < (0 : Int))) (
  R (.bool false) H9) (
  ∃ x11 : Int, rd H9 (⟨H7.size, 0, none⟩ : Addr) = some (.int .i64 x11) ∧ (
  iteB (decide (x11 ≥ (domains.n : Int))) (
  R (.bool false) H9) (
  ∃ x12 : Int, rd H9 ((⟨H7.size, 0, none⟩ : Addr).add 1) = some (.int .i64 x12) ∧ (
  iteB (decide (x12 < (0 : Int))) (
  R (.bool false) H9) (
  ∃ x13 : Int, rd H9 ((⟨H7.size, 0, none⟩ : Addr).add 1) = some (.int .i64 x13) ∧ (
  iteB (decide (x13 ≥ (domains.n : Int))) (
  R (.bool false) H9) (
  ∃ x14 : Int, rd H9 (⟨H7.size, 0, none⟩ : Addr) = some (.int .i64 x14) ∧ (
  ∃ x15 : Int, rd H9 ((⟨H7.size, 0, none⟩ : Addr).add 1) = some (.int .i64 x15) ∧ (
  iteB (x14 == x15) (
  R (.bool false) H9) (
  ∃ x16 : Int, rd H9 ((⟨H7.size, 0, none⟩ : Addr).add 2) = some (.int .i64 x16) ∧ (
  iteB (decide (x16 < (1 : Int))) (
  R (.bool false) H9) (
  ∃ x17 : Int, rd H9 ((⟨H7.size, 0, none⟩ : Addr).add 2) = some (.int .i64 x17) ∧ (
  iteB (decide (x17 > (16777216 : Int))) (
  R (.bool false) H9) (
  ∃ x18 : Int, rd H9 (⟨H7.size, 0, none⟩ : Addr) = some (.int .i64 x18) ∧ (
  ∃ x19 : Int, rd H9 ((⟨H7.size, 0, none⟩ : Addr).add 1) = some (.int .i64 x19) ∧ (
  0 ≤ x18 ∧ x18 < ((16 : Nat) : Int) ∧ (0 ≤ x19 ∧ x19 < ((16 : Nat) : Int) ∧ (∃ x20 : Bool, rd H9 (((⟨H2.size, 0, none⟩ : Addr).add (x18.toNat * 16)).add (x19.toNat * 1)) = some (.bool x20) ∧ (
  iteB x20 (
  R (.bool false) H9) (
  ∃ x21 : Int, rd H9 (⟨H7.size, 0, none⟩ : Addr) = some (.int .i64 x21) ∧ (
  ∃ x22 : Int, rd H9 ((⟨H7.size, 0, none⟩ : Addr).add 1) = some (.int .i64 x22) ∧ (
  0 ≤ x21 ∧ x21 < ((16 : Nat) : Int) ∧ (0 ≤ x22 ∧ x22 < ((16 : Nat) : Int) ∧ (okRow H9 (((⟨H2.size, 0, none⟩ : Addr).add (x21.toNat * 16)).add (x22.toNat * 1)) 1 ∧ (
  letH (wrs H9 (((⟨H2.size, 0, none⟩ : Addr).add (x21.toNat * 16)).add (x22.toNat * 1)) [.bool true]) (fun H10 : Heap =>
  ∃ x23 : Int, rd H10 ((⟨H7.size, 0, none⟩ : Addr).add 1) = some (.int .i64 x23) ∧ (
  ∃ x24 : Int, rd H10 (⟨H7.size, 0, none⟩ : Addr) = some (.int .i64 x24) ∧ (
  0 ≤ x23 ∧ x23 < ((16 : Nat) : Int) ∧ (0 ≤ x24 ∧ x24 < ((16 : Nat) : Int) ∧ (okRow H10 (((⟨H2.size, 0, none⟩ : Addr).add (x23.toNat * 16)).add (x24.toNat * 1)) 1 ∧ (
  letH (wrs H10 (((⟨H2.size, 0, none⟩ : Addr).add (x23.toNat * 16)).add (x24.toNat * 1)) [.bool true]) (fun H11 : Heap =>
  ∃ x25 : Int, rd H11 (⟨H7.size, 0, none⟩ : Addr) = some (.int .i64 x25) ∧ (
  0 ≤ x25 ∧ x25 < ((domains.n : Int).toNat : Int) ∧ (∃ x26 : Int, rd H11 ((⟨H.size, 0, none⟩ : Addr).add (x25.toNat * 1)) = some (.int .i64 x26) ∧ (
  ∃ x27 : Int, rd H11 ((⟨H7.size, 0, none⟩ : Addr).add 2) = some (.int .i64 x27) ∧ (
  0 ≤ x25 ∧ x25 < ((domains.n : Int).toNat : Int) ∧ (okRow H11 ((⟨H.size, 0, none⟩ : Addr).add (x25.toNat * 1)) 1 ∧ (
  letH (wrs H11 ((⟨H.size, 0, none⟩ : Addr).add (x25.toNat * 1)) [.int .i64 (IntKind.i64.wrap (x26 + x27))]) (fun H12 : Heap =>
  ∃ x28 : Int, rd H12 ((⟨H7.size, 0, none⟩ : Addr).add 1) = some (.int .i64 x28) ∧ (
  0 ≤ x28 ∧ x28 < ((domains.n : Int).toNat : Int) ∧ (∃ x29 : Int, rd H12 ((⟨H.size, 0, none⟩ : Addr).add (x28.toNat * 1)) = some (.int .i64 x29) ∧ (
  ∃ x30 : Int, rd H12 ((⟨H7.size, 0, none⟩ : Addr).add 2) = some (.int .i64 x30) ∧ (
  0 ≤ x28 ∧ x28 < ((domains.n : Int).toNat : Int) ∧ (okRow H12 ((⟨H.size, 0, none⟩ : Addr).add (x28.toNat * 1)) 1 ∧ (
  letH (wrs H12 ((⟨H.size, 0, none⟩ : Addr).add (x28.toNat * 1)) [.int .i64 (IntKind.i64.wrap (x29 + x30))]) (fun H13 : Heap =>
  I_1 (IntKind.i64.wrap (x6 + (1 : Int))) H13 ∧ M_1 (IntKind.i64.wrap (x6 + (1 : Int))) H13 < M_1 x6 H7)))))))))))))))))))))))))))))))))))))))))))))))))))))) (
  ∃ I_2 : Int → Heap → Prop, ∃ M_2 : Int → Heap → Nat, I_2 (0 : Int) H7 ∧ (∀ x31 : Int, ∀ H14 : Heap, I_2 x31 H14 → F_heat_valid_r1 R H domains I_2 M_2 x31 H14))

def F_heat_valid_r3 (R : Value → Heap → Prop) (H : Heap) (domains : Sl) (links : Sl) (I_ : Int → Heap → Prop) (M_ : Int → Heap → Nat) (x : Int) (H2 : Heap) : Prop :=
  iteB (decide (x < (domains.n : Int))) (
  0 ≤ x ∧ x < (domains.n : Int) ∧ (unSome domains.p (fun a =>
  ∃ x1 : Int, rd H2 (a.add (x.toNat * 2)) = some (.int .i64 x1) ∧ ∃ x2 : Int, rd H2 ((a.add (x.toNat * 2)).add 1) = some (.int .i64 x2) ∧ (
  letH (H2.push (.cells #[.int .i64 (0 : Int), .int .i64 (0 : Int)] t_api_HeatDomain (0, 0))) (fun H3 : Heap =>
  okRow H3 (⟨H2.size, 0, none⟩ : Addr) 2 ∧ (
  letH (wrs H3 (⟨H2.size, 0, none⟩ : Addr) [.int .i64 x1, .int .i64 x2]) (fun H4 : Heap =>
  ∃ x3 : Int, rd H4 ((⟨H2.size, 0, none⟩ : Addr).add 1) = some (.int .i64 x3) ∧ (
  iteB (decide (x3 < (1 : Int))) (
  R (.bool false) H4) (
  ∃ x4 : Int, rd H4 ((⟨H2.size, 0, none⟩ : Addr).add 1) = some (.int .i64 x4) ∧ (
  iteB (decide (x4 > (16777216 : Int))) (
  R (.bool false) H4) (
  ∃ x5 : Int, rd H4 ((⟨H2.size, 0, none⟩ : Addr).add 1) = some (.int .i64 x5) ∧ (
  0 ≤ x ∧ x < ((domains.n : Int).toNat : Int) ∧ (okRow H4 ((⟨H.size, 0, none⟩ : Addr).add (x.toNat * 1)) 1 ∧ (
  letH (wrs H4 ((⟨H.size, 0, none⟩ : Addr).add (x.toNat * 1)) [.int .i64 x5]) (fun H5 : Heap =>
  I_ (IntKind.i64.wrap (x + (1 : Int))) H5 ∧ M_ (IntKind.i64.wrap (x + (1 : Int))) H5 < M_ x H2))))))))))))))) (
  letH (H2.push (.cells #[.bool false, .bool false, .bool false, .bool false, .bool false, .bool false, .bool false, .bool false, .bool false, .bool false, .bool false, .bool false, .bool false, .bool false, .bool false, .bool false, .bool false, .bool false, .bool false, .bool false, .bool false, .bool false, .bool false, .bool false, .bool false, .bool false, .bool false, .bool false, .bool false, .bool false, .bool false, .bool false, .bool false, .bool false, .bool false, .bool false, .bool false, .bool false, .bool false, .bool false, .bool false, .bool false, .bool false, .bool false, .bool false, .bool false, .bool false, .bool false, .bool false, .bool false, .bool false, .bool false, .bool false, .bool false, .bool false, .bool false, .bool false, .bool false, .bool false, .bool false, .bool false, .bool false, .bool false, .bool false, .bool false, .bool false, .bool false, .bool false, .bool false, .bool false, .bool false, .bool false, .bool false, .bool false, .bool false, .bool false, .bool false, .bool false, .bool false, .bool false, .bool false, .bool false, .bool false, .bool false, .bool false, .bool false, .bool false, .bool false, .bool false, .bool false, .bool false, .bool false, .bool false, .bool false, .bool false, .bool false, .bool false, .bool false, .bool false, .bool false, .bool false, .bool false, .bool false, .bool false, .bool false, .bool false, .bool false, .bool false, .bool false, .bool false, .bool false, .bool false, .bool false, .bool false, .bool false, .bool false, .bool false, .bool false, .bool false, .bool false, .bool false, .bool false, .bool false, .bool false, .bool false, .bool false, .bool false, .bool false, .bool false, .bool false, .bool false, .bool false, .bool false, .bool false, .bool false, .bool false, .bool false, .bool false, .bool false, .bool false, .bool false, .bool false, .bool false, .bool false, .bool false, .bool false, .bool false, .bool false, .bool false, .bool false, .bool false, .bool false, .bool false, .bool false, .bool false, .bool false, .bool false, .bool false, .bool false, .bool false, .bool false, .bool false, .bool false, .bool false, .bool false, .bool false, .bool false, .bool false, .bool false, .bool false, .bool false, .bool false, .bool false, .bool false, .bool false, .bool false, .bool false, .bool false, .bool false, .bool false, .bool false, .bool false, .bool false, .bool false, .bool false, .bool false, .bool false, .bool false, .bool false, .bool false, .bool false, .bool false, .bool false, .bool false, .bool false, .bool false, .bool false, .bool false, .bool false, .bool false, .bool false, .bool false, .bool false, .bool false, .bool false, .bool false, .bool false, .bool false, .bool false, .bool false, .bool false, .bool false, .bool false, .bool false, .bool false, .bool false, .bool false, .bool false, .bool false, .bool false, .bool false, .bool false, .bool false, .bool false, .bool false, .bool false, .bool false, .bool false, .bool false, .bool false, .bool false, .bool false, .bool false, .bool false, .bool false, .bool false, .bool false, .bool false, .bool false, .bool false, .bool false, .bool false, .bool false, .bool false, .bool false, .bool false, .bool false, .bool false, .bool false, .bool false, .bool false, .bool false, .bool false, .bool false, .bool false, .bool false] t_16_16_bool (0, 0))) (fun H6 : Heap =>
  ∃ I_1 : Int → Heap → Prop, ∃ M_1 : Int → Heap → Nat, I_1 (0 : Int) H6 ∧ (∀ x6 : Int, ∀ H7 : Heap, I_1 x6 H7 → F_heat_valid_r2 R H domains links H2 I_1 M_1 x6 H7)))

def F_heat_valid (R : Value → Heap → Prop) (domains : Sl) (links : Sl) (ambient : Int) (H : Heap) : Prop :=
  iteB (decide ((domains.n : Int) < (1 : Int))) (
  R (.bool false) H) (
  iteB (decide ((domains.n : Int) > (16 : Int))) (
  R (.bool false) H) (
  iteB (decide (ambient < (-16777216 : Int))) (
  R (.bool false) H) (
  iteB (decide (ambient > (16777216 : Int))) (
  R (.bool false) H) (
  0 ≤ (domains.n : Int) ∧ (domains.n : Int) ≤ (domains.n : Int) ∧ (domains.n : Int) * ((8 : Nat) : Int) ≤ 281474976710656 ∧ (
  letH (H.push (.cells (zeroRow (.int .i64 (0 : Int)) (domains.n : Int).toNat) t_int64 (0, 0))) (fun H1 : Heap =>
  ∃ I_ : Int → Heap → Prop, ∃ M_ : Int → Heap → Nat, I_ (0 : Int) H1 ∧ (∀ x : Int, ∀ H2 : Heap, I_ x H2 → F_heat_valid_r3 R H domains links I_ M_ x H2)))))))

theorem F_heat_valid_eq (R : Value → Heap → Prop) (domains : Sl) (links : Sl) (ambient : Int) (H : Heap) : wpF Try.prog Try.f60 [(36, .int .i64 0), (57, .int .i64 0), (140, .int .i64 0)] [] [(5, [36], [0, 1, 7, 34, 35]), (13, [57], [0, 7, 10, 55, 56]), (25, [140], [7, 138, 139])] [18] [.slice domains.p domains.n domains.c, .slice links.p links.n links.c, .int .i64 ambient] H R = F_heat_valid R domains links ambient H := by kernel_rfl

theorem F_heat_valid_ok {R : Value → Heap → Prop} (domains : Sl) (links : Sl) (ambient : Int) {H : Heap} (h : F_heat_valid R domains links ambient H) : CallsH Try.prog n_heat_valid #[.slice domains.p domains.n domains.c, .slice links.p links.n links.c, .int .i64 ambient] H R :=
  wpF_ok Try.func60 (F_heat_valid_eq R domains links ambient H) h

/-! ### 61: slices.Clone[[]platformfw/api.HeatDomain,platformfw/api.HeatDomain] -/

def F_slices_Clone_sl_api_HeatDomain_api_HeatDomain (R : Value → Heap → Prop) (s : Sl) (H : Heap) : Prop :=
  iteB s.p.isNone (
  R (.slice none 0 0) H) (
  letH (H.push (.cells #[] t_api_HeatDomain (0, 0))) (fun H1 : Heap =>
  runH Try.prog (Builtin.append_ #[t_sl_api_HeatDomain, t_sl_api_HeatDomain] t_sl_api_HeatDomain #[.slice (some (⟨H.size, 0, none⟩ : Addr)) 0 0, .slice s.p s.n s.c]) H1 (fun v H2 =>
  ∃ x : Sl, v = .slice x.p x.n x.c ∧ (
  R (.slice x.p x.n x.c) H2))))

theorem F_slices_Clone_sl_api_HeatDomain_api_HeatDomain_eq (R : Value → Heap → Prop) (s : Sl) (H : Heap) : wpF Try.prog Try.f61 [] [] [] [18] [.slice s.p s.n s.c] H R = F_slices_Clone_sl_api_HeatDomain_api_HeatDomain R s H := by kernel_rfl

theorem F_slices_Clone_sl_api_HeatDomain_api_HeatDomain_ok {R : Value → Heap → Prop} (s : Sl) {H : Heap} (h : F_slices_Clone_sl_api_HeatDomain_api_HeatDomain R s H) : CallsH Try.prog n_slices_Clone_sl_api_HeatDomain_api_HeatDomain #[.slice s.p s.n s.c] H R :=
  wpF_ok Try.func61 (F_slices_Clone_sl_api_HeatDomain_api_HeatDomain_eq R s H) h

/-! ### 62: slices.Clone[[]platformfw/api.HeatLink,platformfw/api.HeatLink] -/

def F_slices_Clone_sl_api_HeatLink_api_HeatLink (R : Value → Heap → Prop) (s : Sl) (H : Heap) : Prop :=
  iteB s.p.isNone (
  R (.slice none 0 0) H) (
  letH (H.push (.cells #[] t_api_HeatLink (0, 0))) (fun H1 : Heap =>
  runH Try.prog (Builtin.append_ #[t_sl_api_HeatLink, t_sl_api_HeatLink] t_sl_api_HeatLink #[.slice (some (⟨H.size, 0, none⟩ : Addr)) 0 0, .slice s.p s.n s.c]) H1 (fun v H2 =>
  ∃ x : Sl, v = .slice x.p x.n x.c ∧ (
  R (.slice x.p x.n x.c) H2))))

theorem F_slices_Clone_sl_api_HeatLink_api_HeatLink_eq (R : Value → Heap → Prop) (s : Sl) (H : Heap) : wpF Try.prog Try.f62 [] [] [] [18] [.slice s.p s.n s.c] H R = F_slices_Clone_sl_api_HeatLink_api_HeatLink R s H := by kernel_rfl

theorem F_slices_Clone_sl_api_HeatLink_api_HeatLink_ok {R : Value → Heap → Prop} (s : Sl) {H : Heap} (h : F_slices_Clone_sl_api_HeatLink_api_HeatLink R s H) : CallsH Try.prog n_slices_Clone_sl_api_HeatLink_api_HeatLink #[.slice s.p s.n s.c] H R :=
  wpF_ok Try.func62 (F_slices_Clone_sl_api_HeatLink_api_HeatLink_eq R s H) h

/-! ### 63: platformfw/heat.validPower -/

def F_heat_validPower_r1 (R : Value → Heap → Prop) (power : Sl) (I_ : Int → Heap → Prop) (M_ : Int → Heap → Nat) (x : Int) (H1 : Heap) : Prop :=
  iteB (decide (x < (power.n : Int))) (
  0 ≤ x ∧ x < (power.n : Int) ∧ (unSome power.p (fun a =>
  ∃ p : Int, rd H1 (a.add (x.toNat * 1)) = some (.int .i64 p) ∧ (
  iteB (decide (p < (0 : Int))) (
  R (.bool false) H1) (
  iteB (decide (p > (16777216 : Int))) (
  R (.bool false) H1) (
  I_ (IntKind.i64.wrap (x + (1 : Int))) H1 ∧ M_ (IntKind.i64.wrap (x + (1 : Int))) H1 < M_ x H1)))))) (
  R (.bool true) H1)

def F_heat_validPower (R : Value → Heap → Prop) (power : Sl) (domains : Int) (H : Heap) : Prop :=
  iteB ((power.n : Int) != domains) (
  R (.bool false) H) (
  ∃ I_ : Int → Heap → Prop, ∃ M_ : Int → Heap → Nat, I_ (0 : Int) H ∧ (∀ x : Int, ∀ H1 : Heap, I_ x H1 → F_heat_validPower_r1 R power I_ M_ x H1))

theorem F_heat_validPower_eq (R : Value → Heap → Prop) (power : Sl) (domains : Int) (H : Heap) : wpF Try.prog Try.f63 [(13, .int .i64 0)] [] [(4, [13], [11, 12])] [18] [.slice power.p power.n power.c, .int .i64 domains] H R = F_heat_validPower R power domains H := by kernel_rfl

theorem F_heat_validPower_ok {R : Value → Heap → Prop} (power : Sl) (domains : Int) {H : Heap} (h : F_heat_validPower R power domains H) : CallsH Try.prog n_heat_validPower #[.slice power.p power.n power.c, .int .i64 domains] H R :=
  wpF_ok Try.func63 (F_heat_validPower_eq R power domains H) h

/-! ### 64: (*platformfw/heat.Model).temperatures -/

def F_heat_Model_temperatures_r1 (R : Value → Heap → Prop) (H : Heap) (m : Addr) (x : Sl) (I_ : Int → Heap → Prop) (M_ : Int → Heap → Nat) (x1 : Int) (H2 : Heap) : Prop :=
  iteB (decide (x1 < ((x.n : Int).toNat : Int))) (
  CallsH Try.prog n_heat_Model_Temperature #[.pointer (some m), .int .i64 x1] H2 (fun v H3 =>
  ∃ x2 : Int, v = .int .i64 x2 ∧ (
  0 ≤ x1 ∧ x1 < ((x.n : Int).toNat : Int) ∧ (okRow H3 ((⟨H.size, 0, none⟩ : Addr).add (x1.toNat * 1)) 1 ∧ (
  letH (wrs H3 ((⟨H.size, 0, none⟩ : Addr).add (x1.toNat * 1)) [.int .i64 x2]) (fun H4 : Heap =>
  I_ (IntKind.i64.wrap (x1 + (1 : Int))) H4 ∧ M_ (IntKind.i64.wrap (x1 + (1 : Int))) H4 < M_ x1 H2)))))) (
  R (.slice (some (⟨H.size, 0, none⟩ : Addr)) ((x.n : Int).toNat) ((x.n : Int).toNat)) H2)

def F_heat_Model_temperatures (R : Value → Heap → Prop) (m : Addr) (H : Heap) : Prop :=
  ∃ x : Sl, rd H m = some (.slice x.p x.n x.c) ∧ (
  0 ≤ (x.n : Int) ∧ (x.n : Int) ≤ (x.n : Int) ∧ (x.n : Int) * ((8 : Nat) : Int) ≤ 281474976710656 ∧ (
  letH (H.push (.cells (zeroRow (.int .i64 (0 : Int)) (x.n : Int).toNat) t_int64 (0, 0))) (fun H1 : Heap =>
  ∃ I_ : Int → Heap → Prop, ∃ M_ : Int → Heap → Nat, I_ (0 : Int) H1 ∧ (∀ x1 : Int, ∀ H2 : Heap, I_ x1 H2 → F_heat_Model_temperatures_r1 R H m x I_ M_ x1 H2))))

theorem F_heat_Model_temperatures_eq (R : Value → Heap → Prop) (m : Addr) (H : Heap) : wpF Try.prog Try.f64 [(13, .int .i64 0)] [] [(3, [13], [0, 3, 12])] [18] [.pointer (some m)] H R = F_heat_Model_temperatures R m H := by kernel_rfl

theorem F_heat_Model_temperatures_ok {R : Value → Heap → Prop} (m : Addr) {H : Heap} (h : F_heat_Model_temperatures R m H) : CallsH Try.prog n_heat_Model_temperatures #[.pointer (some m)] H R :=
  wpF_ok Try.func64 (F_heat_Model_temperatures_eq R m H) h

/-! ### 65: slices.Clone[[]platformfw/api.OperatingPoint,platformfw/api.OperatingPoint] -/

def F_slices_Clone_sl_api_OperatingPoint_api_OperatingPoint (R : Value → Heap → Prop) (s : Sl) (H : Heap) : Prop :=
  iteB s.p.isNone (
  R (.slice none 0 0) H) (
  letH (H.push (.cells #[] t_api_OperatingPoint (0, 0))) (fun H1 : Heap =>
  runH Try.prog (Builtin.append_ #[t_sl_api_OperatingPoint, t_sl_api_OperatingPoint] t_sl_api_OperatingPoint #[.slice (some (⟨H.size, 0, none⟩ : Addr)) 0 0, .slice s.p s.n s.c]) H1 (fun v H2 =>
  ∃ x : Sl, v = .slice x.p x.n x.c ∧ (
  R (.slice x.p x.n x.c) H2))))

theorem F_slices_Clone_sl_api_OperatingPoint_api_OperatingPoint_eq (R : Value → Heap → Prop) (s : Sl) (H : Heap) : wpF Try.prog Try.f65 [] [] [] [18] [.slice s.p s.n s.c] H R = F_slices_Clone_sl_api_OperatingPoint_api_OperatingPoint R s H := by kernel_rfl

theorem F_slices_Clone_sl_api_OperatingPoint_api_OperatingPoint_ok {R : Value → Heap → Prop} (s : Sl) {H : Heap} (h : F_slices_Clone_sl_api_OperatingPoint_api_OperatingPoint R s H) : CallsH Try.prog n_slices_Clone_sl_api_OperatingPoint_api_OperatingPoint #[.slice s.p s.n s.c] H R :=
  wpF_ok Try.func65 (F_slices_Clone_sl_api_OperatingPoint_api_OperatingPoint_eq R s H) h

/-! ### 66: (*platformfw/perf.Governor).sufficient -/

def F_perf_Governor_sufficient_r1 (R : Value → Heap → Prop) (g : Addr) (work : Int) (I_ : Int → Heap → Prop) (M_ : Int → Heap → Nat) (p1 : Int) (H1 : Heap) : Prop :=
  ∃ x3 : Int, rd H1 (g.add 5) = some (.int .i64 x3) ∧ (
  iteB (decide (p1 < x3)) (
  ∃ x4 : Int, rd H1 (g.add 1) = some (.int .i64 x4) ∧ (
  ∃ x5 : Sl, rd H1 g = some (.slice x5.p x5.n x5.c) ∧ (
  0 ≤ p1 ∧ p1 < (x5.n : Int) ∧ (unSome x5.p (fun a1 =>
  ∃ x6 : Int, rd H1 (a1.add (p1.toNat * 3)) = some (.int .u64 x6) ∧ (
  iteB (decide (work ≤ (IntKind.u64.wrap ((IntKind.u64.wrap x4) * x6)))) (
  R (.int .i64 p1) H1) (
  letV (IntKind.i64.wrap (p1 + (1 : Int))) (fun p2 : Int =>
  I_ p2 H1 ∧ M_ p2 H1 < M_ p1 H1)))))))) (
  ∃ x7 : Int, rd H1 (g.add 5) = some (.int .i64 x7) ∧ (
  R (.int .i64 x7) H1)))

def F_perf_Governor_sufficient (R : Value → Heap → Prop) (g : Addr) (load : Int) (H : Heap) : Prop :=
  ∃ x : Sl, rd H g = some (.slice x.p x.n x.c) ∧ (
  ∃ x1 : Int, rd H (g.add 6) = some (.int .i64 x1) ∧ (
  0 ≤ x1 ∧ x1 < (x.n : Int) ∧ (unSome x.p (fun a =>
  ∃ x2 : Int, rd H (a.add (x1.toNat * 3)) = some (.int .u64 x2) ∧ (
  letV (IntKind.u64.wrap ((IntKind.u64.wrap load) * x2)) (fun work : Int =>
  ∃ p : Int, rd H (g.add 4) = some (.int .i64 p) ∧ (
  ∃ I_ : Int → Heap → Prop, ∃ M_ : Int → Heap → Nat, I_ p H ∧ (∀ p1 : Int, ∀ H1 : Heap, I_ p1 H1 → F_perf_Governor_sufficient_r1 R g work I_ M_ p1 H1))))))))

theorem F_perf_Governor_sufficient_eq (R : Value → Heap → Prop) (g : Addr) (load : Int) (H : Heap) : wpF Try.prog Try.f66 [(6, .int .i64 0)] [] [(3, [6], [0, 5])] [18] [.pointer (some g), .int .i64 load] H R = F_perf_Governor_sufficient R g load H := by kernel_rfl

theorem F_perf_Governor_sufficient_ok {R : Value → Heap → Prop} (g : Addr) (load : Int) {H : Heap} (h : F_perf_Governor_sufficient R g load H) : CallsH Try.prog n_perf_Governor_sufficient #[.pointer (some g), .int .i64 load] H R :=
  wpF_ok Try.func66 (F_perf_Governor_sufficient_eq R g load H) h

/-! ### 67: (*platformfw/heat.Model).Temperature -/

def F_heat_Model_Temperature (R : Value → Heap → Prop) (m : Addr) (domain : Int) (H : Heap) : Prop :=
  iteB (decide (domain < (0 : Int))) (
  R (.int .i64 (0 : Int)) H) (
  ∃ x : Sl, rd H m = some (.slice x.p x.n x.c) ∧ (
  iteB (decide (domain ≥ (x.n : Int))) (
  R (.int .i64 (0 : Int)) H) (
  ∃ x1 : Sl, rd H (m.add 3) = some (.slice x1.p x1.n x1.c) ∧ (
  0 ≤ domain ∧ domain < (x1.n : Int) ∧ (unSome x1.p (fun a =>
  ∃ energy : Int, rd H (a.add (domain.toNat * 1)) = some (.int .i64 energy) ∧ (
  ∃ x2 : Sl, rd H m = some (.slice x2.p x2.n x2.c) ∧ (
  0 ≤ domain ∧ domain < (x2.n : Int) ∧ (unSome x2.p (fun a1 =>
  ∃ capacity : Int, rd H (a1.add (domain.toNat * 2)) = some (.int .i64 capacity) ∧ (
  capacity ≠ 0 ∧ (
  letV (IntKind.i64.wrap (energy.tdiv capacity)) (fun t : Int =>
  capacity ≠ 0 ∧ (
  iteB (decide ((energy.tmod capacity) < (0 : Int))) (
  letV (IntKind.i64.wrap (t - (1 : Int))) (fun t1 : Int =>
  R (.int .i64 t1) H)) (
  R (.int .i64 t) H)))))))))))))))

theorem F_heat_Model_Temperature_eq (R : Value → Heap → Prop) (m : Addr) (domain : Int) (H : Heap) : wpF Try.prog Try.f67 [] [] [] [18] [.pointer (some m), .int .i64 domain] H R = F_heat_Model_Temperature R m domain H := by kernel_rfl

theorem F_heat_Model_Temperature_ok {R : Value → Heap → Prop} (m : Addr) (domain : Int) {H : Heap} (h : F_heat_Model_Temperature R m domain H) : CallsH Try.prog n_heat_Model_Temperature #[.pointer (some m), .int .i64 domain] H R :=
  wpF_ok Try.func67 (F_heat_Model_Temperature_eq R m domain H) h

end Go.Proofs.Ytiikkapdchodkaa
