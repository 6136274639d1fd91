/-
  The shallow readings of this seat's functions, written by a program (gen.py); the kernel holds each against the loaded program.
-/
import Derived.Test.YtenpfhfhjpipaaaProg
import Derived.Test.YtenpfhfhjpipaaaEngS
namespace Go.Proofs.Ytenpfhfhjpipaaa
open Go.Eng
abbrev n_law38_HeatStepsAgree : FuncId := 3
abbrev n_law38_HeatConservation : FuncId := 4
abbrev n_law38_HeatEquilibrium : FuncId := 5
abbrev n_law38_HeatRelabeling : FuncId := 6
abbrev n_law38_HeatCopies : FuncId := 7
abbrev n_law38_HeatNewAgrees : FuncId := 8
abbrev n_law38_HeatBoundHolds : FuncId := 9
abbrev n_law38_HeatShift : FuncId := 10
abbrev n_law38_awake : FuncId := 11
abbrev n_law38_Some : FuncId := 12
abbrev n_heat_New : FuncId := 13
abbrev n_ref38_New : FuncId := 14
abbrev n_law38_Powers : FuncId := 15
abbrev n_heat_Model_Step : FuncId := 16
abbrev n_ref38_Model_Step : FuncId := 17
abbrev n_help_Equal_int64 : FuncId := 18
abbrev n_heat_Model_Released : FuncId := 19
abbrev n_ref38_Model_Released : FuncId := 20
abbrev n_heat_Model_Energy : FuncId := 21
abbrev n_ref38_Model_Energy : FuncId := 22
abbrev n_heat_Model_Temperature : FuncId := 23
abbrev n_ref38_Model_Temperature : FuncId := 24
abbrev n_heat_Model_Copy : FuncId := 25
abbrev n_help_Mod : FuncId := 26
abbrev n_heat_Bound : FuncId := 27
abbrev n_ref38_Bound : FuncId := 28
abbrev n_heat_valid : FuncId := 29
abbrev n_slices_Clone_sl_api_HeatDomain_api_HeatDomain : FuncId := 30
abbrev n_slices_Clone_sl_api_HeatLink_api_HeatLink : FuncId := 31
abbrev n_ref38_valid : FuncId := 32
abbrev n_heat_validPower : FuncId := 33
abbrev n_heat_Model_temperatures : FuncId := 34
abbrev n_ref38_powers : FuncId := 35
abbrev n_ref38_Model_temperatures : FuncId := 36
abbrev n_ref38_floor : FuncId := 37
abbrev n_slices_Clone_sl_int64_int64 : FuncId := 38
abbrev t_int64 : TypeId := 2
abbrev t_int : TypeId := 3
abbrev t_bool : TypeId := 4
abbrev t_uint8 : TypeId := 5
abbrev t_abi_BoundsErrorCode : TypeId := 6
abbrev t_runtime_boundsError : TypeId := 8
abbrev t_string : TypeId := 9
abbrev t_runtime_errorString : TypeId := 10
abbrev t_runtime_plainError : TypeId := 11
abbrev t_uintptr : TypeId := 12
abbrev t_runtime_errorAddressString : TypeId := 14
abbrev t_p_runtime_TypeAssertionError : TypeId := 15
abbrev t_p_runtime_PanicNilError : TypeId := 16
abbrev t_p_abi_Type : TypeId := 17
abbrev t_maps_unhashableTypeError : TypeId := 19
abbrev t_int32 : TypeId := 21
abbrev t_sl_api_HeatDomain : TypeId := 22
abbrev t_sl_api_HeatLink : TypeId := 23
abbrev t_sl_sl_int64 : TypeId := 24
abbrev t_law38_System : TypeId := 27
abbrev t_p_heat_Model : TypeId := 29
abbrev t_api_Errno : TypeId := 30
abbrev t_p_ref38_Model : TypeId := 33
abbrev t_sl_int64 : TypeId := 36
abbrev t_api_HeatDomain : TypeId := 45
abbrev t_api_HeatLink : TypeId := 48
abbrev t_uint64 : TypeId := 52
abbrev t_3_law38_System : TypeId := 53
abbrev t_uint16 : TypeId := 58
abbrev t_heat_Model : TypeId := 64
abbrev t_ref38_Model : TypeId := 66
abbrev t_uint : TypeId := 72
abbrev t_16_bool : TypeId := 73
abbrev t_16_16_bool : TypeId := 74
abbrev t_runtime_TypeAssertionError : TypeId := 77
abbrev t_0_p_runtime_PanicNilError : TypeId := 78
abbrev t_runtime_PanicNilError : TypeId := 80
abbrev t_uint32 : TypeId := 82
abbrev t_abi_TFlag : TypeId := 83
abbrev t_abi_Kind : TypeId := 84
abbrev t_p_uint8 : TypeId := 86
abbrev t_abi_NameOff : TypeId := 87
abbrev t_abi_TypeOff : TypeId := 88
abbrev t_abi_Type : TypeId := 90
abbrev t_unsafe_Pointer : TypeId := 91

/-! ### 3: platformfw/platformfwlaw38.HeatStepsAgree -/

def F_law38_HeatStepsAgree_r1 (R : Value → Heap → Prop) (x4 : Sl) (x8 : Option Addr) (x13 : Option Addr) (I_ : Int → Heap → Prop) (M_ : Int → Heap → Nat) (i : Int) (H7 : Heap) (I_1 : Int → Heap → Prop) (M_1 : Int → Heap → Nat) (k : Int) (H15 : Heap) : Prop :=
  iteB (decide (k ≤ (x4.n : Int))) (
  CallsH Try.prog n_heat_Model_Energy #[.pointer x8, .int .i64 k] H15 (fun v10 H16 =>
  ∃ x23 : Int, v10 = .int .i64 x23 ∧ (
  CallsH Try.prog n_ref38_Model_Energy #[.pointer x13, .int .i64 k] H16 (fun v11 H17 =>
  ∃ x24 : Int, v11 = .int .i64 x24 ∧ (
  iteB (x23 != x24) (
  R (.bool false) H17) (
  CallsH Try.prog n_heat_Model_Temperature #[.pointer x8, .int .i64 k] H17 (fun v12 H18 =>
  ∃ x25 : Int, v12 = .int .i64 x25 ∧ (
  CallsH Try.prog n_ref38_Model_Temperature #[.pointer x13, .int .i64 k] H18 (fun v13 H19 =>
  ∃ x26 : Int, v13 = .int .i64 x26 ∧ (
  iteB (x25 != x26) (
  R (.bool false) H19) (
  letV (IntKind.i64.wrap (k + (1 : Int))) (fun k1 : Int =>
  I_1 k1 H19 ∧ M_1 k1 H19 < M_1 k H15)))))))))))) (
  letV (IntKind.i64.wrap (i + (1 : Int))) (fun i1 : Int =>
  I_ i1 H15 ∧ M_ i1 H15 < M_ i H7))

def F_law38_HeatStepsAgree_k2 (R : Value → Heap → Prop) (x4 : Sl) (x8 : Option Addr) (x13 : Option Addr) (I_ : Int → Heap → Prop) (M_ : Int → Heap → Nat) (i : Int) (H7 : Heap) (p2 : Sl) (H9 : Heap) : Prop :=
  CallsH Try.prog n_heat_Model_Step #[.pointer x8, .slice p2.p p2.n p2.c] H9 (fun v5 H10 =>
  ∃ x16 : Sl, ∃ x17 : Int, v5 = .tuple #[.slice x16.p x16.n x16.c, .int .i64 x17] ∧ (
  CallsH Try.prog n_ref38_Model_Step #[.pointer x13, .slice p2.p p2.n p2.c] H10 (fun v6 H11 =>
  ∃ x18 : Sl, ∃ x19 : Int, v6 = .tuple #[.slice x18.p x18.n x18.c, .int .i64 x19] ∧ (
  iteB (x17 != x19) (
  R (.bool false) H11) (
  CallsH Try.prog n_help_Equal_int64 #[.slice x16.p x16.n x16.c, .slice x18.p x18.n x18.c] H11 (fun v7 H12 =>
  ∃ x20 : Bool, v7 = .bool x20 ∧ (
  iteB (!x20) (
  R (.bool false) H12) (
  CallsH Try.prog n_heat_Model_Released #[.pointer x8] H12 (fun v8 H13 =>
  ∃ x21 : Int, v8 = .int .i64 x21 ∧ (
  CallsH Try.prog n_ref38_Model_Released #[.pointer x13] H13 (fun v9 H14 =>
  ∃ x22 : Int, v9 = .int .i64 x22 ∧ (
  iteB (x21 != x22) (
  R (.bool false) H14) (
  ∃ I_1 : Int → Heap → Prop, ∃ M_1 : Int → Heap → Nat, I_1 (-1 : Int) H14 ∧ (∀ k : Int, ∀ H15 : Heap, I_1 k H15 → F_law38_HeatStepsAgree_r1 R x4 x8 x13 I_ M_ i H7 I_1 M_1 k H15))))))))))))))

def F_law38_HeatStepsAgree_r3 (R : Value → Heap → Prop) (power : Sl) (x4 : Sl) (x8 : Option Addr) (x13 : Option Addr) (I_ : Int → Heap → Prop) (M_ : Int → Heap → Nat) (i : Int) (H7 : Heap) : Prop :=
  iteB (decide (i < (power.n : Int))) (
  0 ≤ i ∧ i < (power.n : Int) ∧ (unSome power.p (fun a =>
  ∃ x15 : Sl, rd H7 (a.add (i.toNat * 1)) = some (.slice x15.p x15.n x15.c) ∧ (
  CallsH Try.prog n_law38_Powers #[.slice x15.p x15.n x15.c, .int .i64 (x4.n : Int), .int .i64 (100 : Int)] H7 (fun v4 H8 =>
  ∃ p : Sl, v4 = .slice p.p p.n p.c ∧ (
  ∃ J_ : Sl → Heap → Prop, (
  iteB ((i.tmod (6 : Int)) == (5 : Int)) (
  0 ≤ i ∧ i < (power.n : Int) ∧ (unSome power.p (fun a1 =>
  ∃ p1 : Sl, rd H8 (a1.add (i.toNat * 1)) = some (.slice p1.p p1.n p1.c) ∧ (
  J_ p1 H8)))) (
  J_ p H8)) ∧ (∀ p2 : Sl, ∀ H9 : Heap, J_ p2 H9 → F_law38_HeatStepsAgree_k2 R x4 x8 x13 I_ M_ i H7 p2 H9))))))) (
  CallsH Try.prog n_law38_awake #[] H7 (fun v14 H20 =>
  ∃ x27 : Bool, v14 = .bool x27 ∧ (
  R (.bool x27) H20)))

def F_law38_HeatStepsAgree (R : Value → Heap → Prop) (domains : Sl) (links : Sl) (ambient : Int) (power : Sl) (H : Heap) : Prop :=
  iteB (decide ((power.n : Int) > (30 : Int))) (
  CallsH Try.prog n_law38_awake #[] H (fun v H1 =>
  ∃ x : Bool, v = .bool x ∧ (
  R (.bool x) H1))) (
  CallsH Try.prog n_law38_Some #[.slice domains.p domains.n domains.c, .slice links.p links.n links.c, .int .i64 ambient] H (fun v1 H2 =>
  ∃ x1 : Sl, ∃ x2 : Sl, ∃ x3 : Int, v1 = .agg #[.slice x1.p x1.n x1.c, .slice x2.p x2.n x2.c, .int .i64 x3] ∧ (
  letH (H2.push (.cells #[.slice none 0 0, .slice none 0 0, .int .i64 (0 : Int)] t_law38_System (0, 0))) (fun H3 : Heap =>
  okRow H3 (⟨H2.size, 0, none⟩ : Addr) 3 ∧ (
  letH (wrs H3 (⟨H2.size, 0, none⟩ : Addr) [.slice x1.p x1.n x1.c, .slice x2.p x2.n x2.c, .int .i64 x3]) (fun H4 : Heap =>
  ∃ x4 : Sl, rd H4 (⟨H2.size, 0, none⟩ : Addr) = some (.slice x4.p x4.n x4.c) ∧ (
  ∃ x5 : Sl, rd H4 (⟨H2.size, 0, none⟩ : Addr) = some (.slice x5.p x5.n x5.c) ∧ (
  ∃ x6 : Sl, rd H4 ((⟨H2.size, 0, none⟩ : Addr).add 1) = some (.slice x6.p x6.n x6.c) ∧ (
  ∃ x7 : Int, rd H4 ((⟨H2.size, 0, none⟩ : Addr).add 2) = some (.int .i64 x7) ∧ (
  CallsH Try.prog n_heat_New #[.slice x5.p x5.n x5.c, .slice x6.p x6.n x6.c, .int .i64 x7] H4 (fun v2 H5 =>
  ∃ x8 : Option Addr, ∃ x9 : Int, v2 = .tuple #[.pointer x8, .int .i64 x9] ∧ (
  ∃ x10 : Sl, rd H5 (⟨H2.size, 0, none⟩ : Addr) = some (.slice x10.p x10.n x10.c) ∧ (
  ∃ x11 : Sl, rd H5 ((⟨H2.size, 0, none⟩ : Addr).add 1) = some (.slice x11.p x11.n x11.c) ∧ (
  ∃ x12 : Int, rd H5 ((⟨H2.size, 0, none⟩ : Addr).add 2) = some (.int .i64 x12) ∧ (
  CallsH Try.prog n_ref38_New #[.slice x10.p x10.n x10.c, .slice x11.p x11.n x11.c, .int .i64 x12] H5 (fun v3 H6 =>
  ∃ x13 : Option Addr, ∃ x14 : Int, v3 = .tuple #[.pointer x13, .int .i64 x14] ∧ (
  iteB (x9 != (0 : Int)) (
  R (.bool false) H6) (
  iteB (x14 != (0 : Int)) (
  R (.bool false) H6) (
  iteB x8.isNone (
  R (.bool false) H6) (
  ∃ I_ : Int → Heap → Prop, ∃ M_ : Int → Heap → Nat, I_ (0 : Int) H6 ∧ (∀ i : Int, ∀ H7 : Heap, I_ i H7 → F_law38_HeatStepsAgree_r3 R power x4 x8 x13 I_ M_ i H7)))))))))))))))))))))

theorem F_law38_HeatStepsAgree_eq (R : Value → Heap → Prop) (domains : Sl) (links : Sl) (ambient : Int) (power : Sl) (H : Heap) : wpF Try.prog Try.f3 [(15, .int .i64 0), (16, .slice none 0 0), (21, .int .i64 0)] [(15, [16], [3, 10, 11, 13, 15])] [(10, [15], [3, 10, 11, 13]), (20, [21], [3, 10, 11, 13, 15])] [26] [.slice domains.p domains.n domains.c, .slice links.p links.n links.c, .int .i64 ambient, .slice power.p power.n power.c] H R = F_law38_HeatStepsAgree R domains links ambient power H := by kernel_rfl

theorem F_law38_HeatStepsAgree_ok {R : Value → Heap → Prop} (domains : Sl) (links : Sl) (ambient : Int) (power : Sl) {H : Heap} (h : F_law38_HeatStepsAgree R domains links ambient power H) : CallsH Try.prog n_law38_HeatStepsAgree #[.slice domains.p domains.n domains.c, .slice links.p links.n links.c, .int .i64 ambient, .slice power.p power.n power.c] H R :=
  wpF_sound Try.func3 (Eq.mpr (F_law38_HeatStepsAgree_eq R domains links ambient power H) h)

/-! ### 4: platformfw/platformfwlaw38.HeatConservation -/

def F_law38_HeatConservation_r1 (R : Value → Heap → Prop) (x4 : Sl) (x8 : Option Addr) (I_1 : Int → Int → Heap → Prop) (M_1 : Int → Int → Heap → Nat) (total2 : Int) (i2 : Int) (H7 : Heap) (p : Sl) (I_2 : Int → Int → Int → Heap → Prop) (M_2 : Int → Int → Int → Heap → Nat) (total3 : Int) (sum1 : Int) (k : Int) (H11 : Heap) : Prop :=
  iteB (decide (k < (x4.n : Int))) (
  0 ≤ k ∧ k < (p.n : Int) ∧ (unSome p.p (fun a2 =>
  ∃ x16 : Int, rd H11 (a2.add (k.toNat * 1)) = some (.int .i64 x16) ∧ (
  letV (IntKind.i64.wrap (total3 + x16)) (fun total4 : Int =>
  CallsH Try.prog n_heat_Model_Energy #[.pointer x8, .int .i64 k] H11 (fun v6 H12 =>
  ∃ x17 : Int, v6 = .int .i64 x17 ∧ (
  letV (IntKind.i64.wrap (sum1 + x17)) (fun sum2 : Int =>
  letV (IntKind.i64.wrap (k + (1 : Int))) (fun k1 : Int =>
  I_2 total4 sum2 k1 H12 ∧ M_2 total4 sum2 k1 H12 < M_2 total3 sum1 k H11))))))))) (
  iteB (sum1 != total3) (
  R (.bool false) H11) (
  letV (IntKind.i64.wrap (i2 + (1 : Int))) (fun i3 : Int =>
  I_1 total3 i3 H11 ∧ M_1 total3 i3 H11 < M_1 total2 i2 H7)))

def F_law38_HeatConservation_r2 (R : Value → Heap → Prop) (power : Sl) (x4 : Sl) (x8 : Option Addr) (I_1 : Int → Int → Heap → Prop) (M_1 : Int → Int → Heap → Nat) (total2 : Int) (i2 : Int) (H7 : Heap) : Prop :=
  iteB (decide (i2 < (power.n : Int))) (
  0 ≤ i2 ∧ i2 < (power.n : Int) ∧ (unSome power.p (fun a1 =>
  ∃ x13 : Sl, rd H7 (a1.add (i2.toNat * 1)) = some (.slice x13.p x13.n x13.c) ∧ (
  CallsH Try.prog n_law38_Powers #[.slice x13.p x13.n x13.c, .int .i64 (x4.n : Int), .int .i64 (1000 : Int)] H7 (fun v3 H8 =>
  ∃ p : Sl, v3 = .slice p.p p.n p.c ∧ (
  CallsH Try.prog n_heat_Model_Step #[.pointer x8, .slice p.p p.n p.c] H8 (fun v4 H9 =>
  ∃ x14 : Sl, ∃ x15 : Int, v4 = .tuple #[.slice x14.p x14.n x14.c, .int .i64 x15] ∧ (
  iteB (x15 != (0 : Int)) (
  R (.bool false) H9) (
  CallsH Try.prog n_heat_Model_Released #[.pointer x8] H9 (fun v5 H10 =>
  ∃ sum : Int, v5 = .int .i64 sum ∧ (
  ∃ I_2 : Int → Int → Int → Heap → Prop, ∃ M_2 : Int → Int → Int → Heap → Nat, I_2 total2 sum (0 : Int) H10 ∧ (∀ total3 : Int, ∀ sum1 : Int, ∀ k : Int, ∀ H11 : Heap, I_2 total3 sum1 k H11 → F_law38_HeatConservation_r1 R x4 x8 I_1 M_1 total2 i2 H7 p I_2 M_2 total3 sum1 k H11)))))))))))) (
  CallsH Try.prog n_law38_awake #[] H7 (fun v7 H13 =>
  ∃ x18 : Bool, v7 = .bool x18 ∧ (
  R (.bool x18) H13)))

def F_law38_HeatConservation_r3 (R : Value → Heap → Prop) (power : Sl) (H2 : Heap) (x4 : Sl) (x8 : Option Addr) (I_ : Int → Int → Heap → Prop) (M_ : Int → Int → Heap → Nat) (total : Int) (i : Int) (H6 : Heap) : Prop :=
  iteB (decide (i < (x4.n : Int))) (
  ∃ x10 : Sl, rd H6 (⟨H2.size, 0, none⟩ : Addr) = some (.slice x10.p x10.n x10.c) ∧ (
  0 ≤ i ∧ i < (x10.n : Int) ∧ (unSome x10.p (fun a =>
  ∃ x11 : Int, rd H6 (a.add (i.toNat * 2)) = some (.int .i64 x11) ∧ (
  ∃ x12 : Int, rd H6 ((⟨H2.size, 0, none⟩ : Addr).add 2) = some (.int .i64 x12) ∧ (
  letV (IntKind.i64.wrap (total + (IntKind.i64.wrap (x11 * x12)))) (fun total1 : Int =>
  letV (IntKind.i64.wrap (i + (1 : Int))) (fun i1 : Int =>
  I_ total1 i1 H6 ∧ M_ total1 i1 H6 < M_ total i H6)))))))) (
  ∃ I_1 : Int → Int → Heap → Prop, ∃ M_1 : Int → Int → Heap → Nat, I_1 total (0 : Int) H6 ∧ (∀ total2 : Int, ∀ i2 : Int, ∀ H7 : Heap, I_1 total2 i2 H7 → F_law38_HeatConservation_r2 R power x4 x8 I_1 M_1 total2 i2 H7))

def F_law38_HeatConservation (R : Value → Heap → Prop) (domains : Sl) (links : Sl) (ambient : Int) (power : Sl) (H : Heap) : Prop :=
  iteB (decide ((power.n : Int) > (40 : Int))) (
  CallsH Try.prog n_law38_awake #[] H (fun v H1 =>
  ∃ x : Bool, v = .bool x ∧ (
  R (.bool x) H1))) (
  CallsH Try.prog n_law38_Some #[.slice domains.p domains.n domains.c, .slice links.p links.n links.c, .int .i64 ambient] H (fun v1 H2 =>
  ∃ x1 : Sl, ∃ x2 : Sl, ∃ x3 : Int, v1 = .agg #[.slice x1.p x1.n x1.c, .slice x2.p x2.n x2.c, .int .i64 x3] ∧ (
  letH (H2.push (.cells #[.slice none 0 0, .slice none 0 0, .int .i64 (0 : Int)] t_law38_System (0, 0))) (fun H3 : Heap =>
  okRow H3 (⟨H2.size, 0, none⟩ : Addr) 3 ∧ (
  letH (wrs H3 (⟨H2.size, 0, none⟩ : Addr) [.slice x1.p x1.n x1.c, .slice x2.p x2.n x2.c, .int .i64 x3]) (fun H4 : Heap =>
  ∃ x4 : Sl, rd H4 (⟨H2.size, 0, none⟩ : Addr) = some (.slice x4.p x4.n x4.c) ∧ (
  ∃ x5 : Sl, rd H4 (⟨H2.size, 0, none⟩ : Addr) = some (.slice x5.p x5.n x5.c) ∧ (
  ∃ x6 : Sl, rd H4 ((⟨H2.size, 0, none⟩ : Addr).add 1) = some (.slice x6.p x6.n x6.c) ∧ (
  ∃ x7 : Int, rd H4 ((⟨H2.size, 0, none⟩ : Addr).add 2) = some (.int .i64 x7) ∧ (
  CallsH Try.prog n_heat_New #[.slice x5.p x5.n x5.c, .slice x6.p x6.n x6.c, .int .i64 x7] H4 (fun v2 H5 =>
  ∃ x8 : Option Addr, ∃ x9 : Int, v2 = .tuple #[.pointer x8, .int .i64 x9] ∧ (
  iteB (x9 != (0 : Int)) (
  R (.bool false) H5) (
  iteB x8.isNone (
  R (.bool false) H5) (
  ∃ I_ : Int → Int → Heap → Prop, ∃ M_ : Int → Int → Heap → Nat, I_ (0 : Int) (0 : Int) H5 ∧ (∀ total : Int, ∀ i : Int, ∀ H6 : Heap, I_ total i H6 → F_law38_HeatConservation_r3 R power H2 x4 x8 I_ M_ total i H6)))))))))))))))

theorem F_law38_HeatConservation_eq (R : Value → Heap → Prop) (domains : Sl) (links : Sl) (ambient : Int) (power : Sl) (H : Heap) : wpF Try.prog Try.f4 [(13, .int .i64 0), (14, .int .i64 0), (15, .int .i64 0), (19, .int .i64 0), (20, .int .i64 0)] [] [(10, [13, 14], [3, 9, 10, 11]), (14, [13, 15], [3, 10, 11]), (22, [13, 19, 20], [3, 10, 11, 15, 16])] [26] [.slice domains.p domains.n domains.c, .slice links.p links.n links.c, .int .i64 ambient, .slice power.p power.n power.c] H R = F_law38_HeatConservation R domains links ambient power H := by kernel_rfl

theorem F_law38_HeatConservation_ok {R : Value → Heap → Prop} (domains : Sl) (links : Sl) (ambient : Int) (power : Sl) {H : Heap} (h : F_law38_HeatConservation R domains links ambient power H) : CallsH Try.prog n_law38_HeatConservation #[.slice domains.p domains.n domains.c, .slice links.p links.n links.c, .int .i64 ambient, .slice power.p power.n power.c] H R :=
  wpF_sound Try.func4 (Eq.mpr (F_law38_HeatConservation_eq R domains links ambient power H) h)

/-! ### 5: platformfw/platformfwlaw38.HeatEquilibrium -/

def F_law38_HeatEquilibrium_r1 (R : Value → Heap → Prop) (H1 : Heap) (I_ : Int → Heap → Prop) (M_ : Int → Heap → Nat) (i : Int) (H6 : Heap) (x13 : Sl) (I_1 : Int → Heap → Prop) (M_1 : Int → Heap → Nat) (j : Int) (H9 : Heap) : Prop :=
  iteB (decide (j < (x13.n : Int))) (
  0 ≤ j ∧ j < (x13.n : Int) ∧ (unSome x13.p (fun a =>
  ∃ x16 : Int, rd H9 (a.add (j.toNat * 1)) = some (.int .i64 x16) ∧ (
  ∃ x17 : Int, rd H9 ((⟨H1.size, 0, none⟩ : Addr).add 2) = some (.int .i64 x17) ∧ (
  iteB (x16 != x17) (
  R (.bool false) H9) (
  letV (IntKind.i64.wrap (j + (1 : Int))) (fun j1 : Int =>
  I_1 j1 H9 ∧ M_1 j1 H9 < M_1 j H9))))))) (
  letV (IntKind.i64.wrap (i + (1 : Int))) (fun i1 : Int =>
  I_ i1 H9 ∧ M_ i1 H9 < M_ i H6))

def F_law38_HeatEquilibrium_r2 (R : Value → Heap → Prop) (H1 : Heap) (x10 : Option Addr) (H6 : Heap) (n : Int) (J_ : Heap → Prop) (I_2 : Int → Heap → Prop) (M_2 : Int → Heap → Nat) (x20 : Int) (H11 : Heap) : Prop :=
  iteB (decide (x20 < (2000 : Int))) (
  ∃ x21 : Int, rd H11 ((⟨H1.size, 0, none⟩ : Addr).add 2) = some (.int .i64 x21) ∧ (
  CallsH Try.prog n_heat_Model_Temperature #[.pointer x10, .int .i64 (0 : Int)] H11 (fun v4 H12 =>
  ∃ x22 : Int, v4 = .int .i64 x22 ∧ (
  Ext H11 H12 ∧ (
  iteB (x22 == (IntKind.i64.wrap (x21 + n))) (
  J_ H12) (
  CallsH Try.prog n_heat_Model_Step #[.pointer x10, .slice (some (⟨H6.size, 0, none⟩ : Addr)) 1 1] H12 (fun v5 H13 =>
  ∃ x23 : Sl, ∃ x24 : Int, v5 = .tuple #[.slice x23.p x23.n x23.c, .int .i64 x24] ∧ (
  iteB (x24 != (0 : Int)) (
  R (.bool false) H13) (
  I_2 (IntKind.i64.wrap (x20 + (1 : Int))) H13 ∧ M_2 (IntKind.i64.wrap (x20 + (1 : Int))) H13 < M_2 x20 H11))))))))) (
  J_ H11)

def F_law38_HeatEquilibrium_r3 (R : Value → Heap → Prop) (H1 : Heap) (x6 : Option Addr) (x10 : Option Addr) (H6 : Heap) (n : Int) (I_3 : Int → Heap → Prop) (M_3 : Int → Heap → Nat) (i2 : Int) (H15 : Heap) : Prop :=
  iteB (decide (i2 < (5 : Int))) (
  ∃ x25 : Int, rd H15 ((⟨H1.size, 0, none⟩ : Addr).add 2) = some (.int .i64 x25) ∧ (
  CallsH Try.prog n_heat_Model_Temperature #[.pointer x10, .int .i64 (0 : Int)] H15 (fun v6 H16 =>
  ∃ x26 : Int, v6 = .int .i64 x26 ∧ (
  Ext H15 H16 ∧ (
  iteB (x26 != (IntKind.i64.wrap (x25 + n))) (
  R (.bool false) H16) (
  CallsH Try.prog n_heat_Model_Step #[.pointer x10, .slice (some (⟨H6.size, 0, none⟩ : Addr)) 1 1] H16 (fun v7 H17 =>
  ∃ x27 : Sl, ∃ x28 : Int, v7 = .tuple #[.slice x27.p x27.n x27.c, .int .i64 x28] ∧ (
  iteB (x28 != (0 : Int)) (
  R (.bool false) H17) (
  letV (IntKind.i64.wrap (i2 + (1 : Int))) (fun i3 : Int =>
  I_3 i3 H17 ∧ M_3 i3 H17 < M_3 i2 H15)))))))))) (
  CallsH Try.prog n_heat_Model_Released #[.pointer x6] H15 (fun v8 H18 =>
  ∃ x29 : Int, v8 = .int .i64 x29 ∧ (
  iteB (x29 == (0 : Int)) (
  CallsH Try.prog n_law38_awake #[] H18 (fun v9 H19 =>
  ∃ x30 : Bool, v9 = .bool x30 ∧ (
  R (.bool x30) H19))) (
  R (.bool false) H18))))

def F_law38_HeatEquilibrium_k4 (R : Value → Heap → Prop) (H1 : Heap) (x6 : Option Addr) (x10 : Option Addr) (H6 : Heap) (n : Int) (H14 : Heap) : Prop :=
  ∃ I_3 : Int → Heap → Prop, ∃ M_3 : Int → Heap → Nat, I_3 (0 : Int) H14 ∧ (∀ i2 : Int, ∀ H15 : Heap, I_3 i2 H15 → F_law38_HeatEquilibrium_r3 R H1 x6 x10 H6 n I_3 M_3 i2 H15)

def F_law38_HeatEquilibrium_r5 (R : Value → Heap → Prop) (k : Int) (H1 : Heap) (x6 : Option Addr) (x10 : Option Addr) (I_ : Int → Heap → Prop) (M_ : Int → Heap → Nat) (i : Int) (H6 : Heap) : Prop :=
  iteB (decide (i < (5 : Int))) (
  ∃ x12 : Sl, rd H6 (⟨H1.size, 0, none⟩ : Addr) = some (.slice x12.p x12.n x12.c) ∧ (
  0 ≤ (x12.n : Int) ∧ (x12.n : Int) ≤ (x12.n : Int) ∧ (x12.n : Int) * ((8 : Nat) : Int) ≤ 281474976710656 ∧ (
  letH (H6.push (.cells (zeroRow (.int .i64 (0 : Int)) (x12.n : Int).toNat) t_int64 (0, 0))) (fun H7 : Heap =>
  CallsH Try.prog n_heat_Model_Step #[.pointer x6, .slice (some (⟨H6.size, 0, none⟩ : Addr)) ((x12.n : Int).toNat) ((x12.n : Int).toNat)] H7 (fun v3 H8 =>
  ∃ x13 : Sl, ∃ x14 : Int, v3 = .tuple #[.slice x13.p x13.n x13.c, .int .i64 x14] ∧ (
  iteB (x14 != (0 : Int)) (
  R (.bool false) H8) (
  ∃ x15 : Sl, rd H8 (⟨H1.size, 0, none⟩ : Addr) = some (.slice x15.p x15.n x15.c) ∧ (
  iteB ((x13.n : Int) != (x15.n : Int)) (
  R (.bool false) H8) (
  ∃ I_1 : Int → Heap → Prop, ∃ M_1 : Int → Heap → Nat, I_1 (0 : Int) H8 ∧ (∀ j : Int, ∀ H9 : Heap, I_1 j H9 → F_law38_HeatEquilibrium_r1 R H1 I_ M_ i H6 x13 I_1 M_1 j H9)))))))))) (
  letV (IntKind.i64.wrap (k.tmod (8 : Int))) (fun n : Int =>
  ∃ x18 : Sl, rd H6 (⟨H1.size, 0, none⟩ : Addr) = some (.slice x18.p x18.n x18.c) ∧ (
  0 ≤ (0 : Int) ∧ (0 : Int) < (x18.n : Int) ∧ (unSome x18.p (fun a1 =>
  ∃ x19 : Int, rd H6 ((a1.add ((0 : Int).toNat * 2)).add 1) = some (.int .i64 x19) ∧ (
  letH (H6.push (.cells #[.int .i64 (IntKind.i64.wrap (n * x19))] t_int64 (0, 0))) (fun H10 : Heap =>
  ∃ J_ : Heap → Prop, (
  ∃ I_2 : Int → Heap → Prop, ∃ M_2 : Int → Heap → Nat, I_2 (0 : Int) H10 ∧ (∀ x20 : Int, ∀ H11 : Heap, I_2 x20 H11 → F_law38_HeatEquilibrium_r2 R H1 x10 H6 n J_ I_2 M_2 x20 H11)) ∧ (∀ H14 : Heap, J_ H14 → F_law38_HeatEquilibrium_k4 R H1 x6 x10 H6 n H14))))))))

def F_law38_HeatEquilibrium (R : Value → Heap → Prop) (domains : Sl) (links : Sl) (ambient : Int) (k : Int) (H : Heap) : Prop :=
  CallsH Try.prog n_law38_Some #[.slice domains.p domains.n domains.c, .slice links.p links.n links.c, .int .i64 ambient] H (fun v H1 =>
  ∃ x : Sl, ∃ x1 : Sl, ∃ x2 : Int, v = .agg #[.slice x.p x.n x.c, .slice x1.p x1.n x1.c, .int .i64 x2] ∧ (
  letH (H1.push (.cells #[.slice none 0 0, .slice none 0 0, .int .i64 (0 : Int)] t_law38_System (0, 0))) (fun H2 : Heap =>
  okRow H2 (⟨H1.size, 0, none⟩ : Addr) 3 ∧ (
  letH (wrs H2 (⟨H1.size, 0, none⟩ : Addr) [.slice x.p x.n x.c, .slice x1.p x1.n x1.c, .int .i64 x2]) (fun H3 : Heap =>
  ∃ x3 : Sl, rd H3 (⟨H1.size, 0, none⟩ : Addr) = some (.slice x3.p x3.n x3.c) ∧ (
  ∃ x4 : Sl, rd H3 ((⟨H1.size, 0, none⟩ : Addr).add 1) = some (.slice x4.p x4.n x4.c) ∧ (
  ∃ x5 : Int, rd H3 ((⟨H1.size, 0, none⟩ : Addr).add 2) = some (.int .i64 x5) ∧ (
  CallsH Try.prog n_heat_New #[.slice x3.p x3.n x3.c, .slice x4.p x4.n x4.c, .int .i64 x5] H3 (fun v1 H4 =>
  ∃ x6 : Option Addr, ∃ x7 : Int, v1 = .tuple #[.pointer x6, .int .i64 x7] ∧ (
  ∃ x8 : Sl, rd H4 (⟨H1.size, 0, none⟩ : Addr) = some (.slice x8.p x8.n x8.c) ∧ (
  0 ≤ (1 : Int) ∧ (1 : Int) ≤ (x8.c : Int) ∧ (
  ∃ x9 : Int, rd H4 ((⟨H1.size, 0, none⟩ : Addr).add 2) = some (.int .i64 x9) ∧ (
  CallsH Try.prog n_heat_New #[.slice (slP x8.p x8.c 0 2) ((1 : Int).toNat - 0) (x8.c - 0), .slice none 0 0, .int .i64 x9] H4 (fun v2 H5 =>
  ∃ x10 : Option Addr, ∃ x11 : Int, v2 = .tuple #[.pointer x10, .int .i64 x11] ∧ (
  iteB (x7 != (0 : Int)) (
  R (.bool false) H5) (
  iteB (x11 != (0 : Int)) (
  R (.bool false) H5) (
  iteB x6.isNone (
  R (.bool false) H5) (
  iteB x10.isNone (
  R (.bool false) H5) (
  ∃ I_ : Int → Heap → Prop, ∃ M_ : Int → Heap → Nat, I_ (0 : Int) H5 ∧ (∀ i : Int, ∀ H6 : Heap, I_ i H6 → F_law38_HeatEquilibrium_r5 R k H1 x6 x10 I_ M_ i H6))))))))))))))))))))

theorem F_law38_HeatEquilibrium_eq (R : Value → Heap → Prop) (domains : Sl) (links : Sl) (ambient : Int) (k : Int) (H : Heap) : wpF Try.prog Try.f5 [(14, .int .i64 0), (17, .int .i64 0), (22, .int .i64 0), (109, .int .i64 0)] [(26, [], [9, 10, 12, 18, 19])] [(7, [14], [3, 9, 10, 12]), (13, [17], [3, 9, 10, 12, 14, 15]), (20, [109], [9, 10, 12, 18, 19]), (27, [22], [9, 10, 12, 18, 19])] [26] [.slice domains.p domains.n domains.c, .slice links.p links.n links.c, .int .i64 ambient, .int .u8 k] H R = F_law38_HeatEquilibrium R domains links ambient k H := by kernel_rfl

theorem F_law38_HeatEquilibrium_ok {R : Value → Heap → Prop} (domains : Sl) (links : Sl) (ambient : Int) (k : Int) {H : Heap} (h : F_law38_HeatEquilibrium R domains links ambient k H) : CallsH Try.prog n_law38_HeatEquilibrium #[.slice domains.p domains.n domains.c, .slice links.p links.n links.c, .int .i64 ambient, .int .u8 k] H R :=
  wpF_sound Try.func5 (Eq.mpr (F_law38_HeatEquilibrium_eq R domains links ambient k H) h)

/-! ### 6: platformfw/platformfwlaw38.HeatRelabeling -/

def F_law38_HeatRelabeling_r1 (R : Value → Heap → Prop) (x4 : Sl) (x18 : Option Addr) (x21 : Option Addr) (I_2 : Int → Heap → Prop) (M_2 : Int → Heap → Nat) (i6 : Int) (H13 : Heap) (x25 : Sl) (x27 : Sl) (I_4 : Int → Heap → Prop) (M_4 : Int → Heap → Nat) (k2 : Int) (H20 : Heap) : Prop :=
  iteB (decide (k2 < (x4.n : Int))) (
  0 ≤ k2 ∧ k2 < (x25.n : Int) ∧ (unSome x25.p (fun a6 =>
  ∃ x29 : Int, rd H20 (a6.add (k2.toNat * 1)) = some (.int .i64 x29) ∧ (
  0 ≤ (IntKind.i64.wrap ((IntKind.i64.wrap ((x4.n : Int) - (1 : Int))) - k2)) ∧ (IntKind.i64.wrap ((IntKind.i64.wrap ((x4.n : Int) - (1 : Int))) - k2)) < (x27.n : Int) ∧ (unSome x27.p (fun a7 =>
  ∃ x30 : Int, rd H20 (a7.add ((IntKind.i64.wrap ((IntKind.i64.wrap ((x4.n : Int) - (1 : Int))) - k2)).toNat * 1)) = some (.int .i64 x30) ∧ (
  iteB (x29 != x30) (
  R (.bool false) H20) (
  CallsH Try.prog n_heat_Model_Energy #[.pointer x18, .int .i64 k2] H20 (fun v9 H21 =>
  ∃ x31 : Int, v9 = .int .i64 x31 ∧ (
  CallsH Try.prog n_heat_Model_Energy #[.pointer x21, .int .i64 (IntKind.i64.wrap ((IntKind.i64.wrap ((x4.n : Int) - (1 : Int))) - k2))] H21 (fun v10 H22 =>
  ∃ x32 : Int, v10 = .int .i64 x32 ∧ (
  iteB (x31 != x32) (
  R (.bool false) H22) (
  letV (IntKind.i64.wrap (k2 + (1 : Int))) (fun k3 : Int =>
  I_4 k3 H22 ∧ M_4 k3 H22 < M_4 k2 H20)))))))))))))) (
  letV (IntKind.i64.wrap (i6 + (1 : Int))) (fun i7 : Int =>
  I_2 i7 H20 ∧ M_2 i7 H20 < M_2 i6 H13))

def F_law38_HeatRelabeling_r2 (R : Value → Heap → Prop) (x4 : Sl) (x18 : Option Addr) (x21 : Option Addr) (I_2 : Int → Heap → Prop) (M_2 : Int → Heap → Nat) (i6 : Int) (H13 : Heap) (H14 : Heap) (p : Sl) (I_3 : Int → Heap → Prop) (M_3 : Int → Heap → Nat) (k : Int) (H16 : Heap) : Prop :=
  iteB (decide (k < (x4.n : Int))) (
  0 ≤ k ∧ k < (p.n : Int) ∧ (unSome p.p (fun a5 =>
  ∃ x24 : Int, rd H16 (a5.add (k.toNat * 1)) = some (.int .i64 x24) ∧ (
  0 ≤ (IntKind.i64.wrap ((IntKind.i64.wrap ((x4.n : Int) - (1 : Int))) - k)) ∧ (IntKind.i64.wrap ((IntKind.i64.wrap ((x4.n : Int) - (1 : Int))) - k)) < ((x4.n : Int).toNat : Int) ∧ (okRow H16 ((⟨H14.size, 0, none⟩ : Addr).add ((IntKind.i64.wrap ((IntKind.i64.wrap ((x4.n : Int) - (1 : Int))) - k)).toNat * 1)) 1 ∧ (
  letH (wrs H16 ((⟨H14.size, 0, none⟩ : Addr).add ((IntKind.i64.wrap ((IntKind.i64.wrap ((x4.n : Int) - (1 : Int))) - k)).toNat * 1)) [.int .i64 x24]) (fun H17 : Heap =>
  letV (IntKind.i64.wrap (k + (1 : Int))) (fun k1 : Int =>
  I_3 k1 H17 ∧ M_3 k1 H17 < M_3 k H16)))))))) (
  CallsH Try.prog n_heat_Model_Step #[.pointer x18, .slice p.p p.n p.c] H16 (fun v7 H18 =>
  ∃ x25 : Sl, ∃ x26 : Int, v7 = .tuple #[.slice x25.p x25.n x25.c, .int .i64 x26] ∧ (
  CallsH Try.prog n_heat_Model_Step #[.pointer x21, .slice (some (⟨H14.size, 0, none⟩ : Addr)) ((x4.n : Int).toNat) ((x4.n : Int).toNat)] H18 (fun v8 H19 =>
  ∃ x27 : Sl, ∃ x28 : Int, v8 = .tuple #[.slice x27.p x27.n x27.c, .int .i64 x28] ∧ (
  iteB (x26 != (0 : Int)) (
  R (.bool false) H19) (
  iteB (x28 != (0 : Int)) (
  R (.bool false) H19) (
  iteB ((x25.n : Int) != (x4.n : Int)) (
  R (.bool false) H19) (
  iteB ((x27.n : Int) != (x4.n : Int)) (
  R (.bool false) H19) (
  ∃ I_4 : Int → Heap → Prop, ∃ M_4 : Int → Heap → Nat, I_4 (0 : Int) H19 ∧ (∀ k2 : Int, ∀ H20 : Heap, I_4 k2 H20 → F_law38_HeatRelabeling_r1 R x4 x18 x21 I_2 M_2 i6 H13 x25 x27 I_4 M_4 k2 H20))))))))))

def F_law38_HeatRelabeling_r3 (R : Value → Heap → Prop) (power : Sl) (x4 : Sl) (x18 : Option Addr) (x21 : Option Addr) (I_2 : Int → Heap → Prop) (M_2 : Int → Heap → Nat) (i6 : Int) (H13 : Heap) : Prop :=
  iteB (decide (i6 < (power.n : Int))) (
  0 ≤ i6 ∧ i6 < (power.n : Int) ∧ (unSome power.p (fun a4 =>
  ∃ x23 : Sl, rd H13 (a4.add (i6.toNat * 1)) = some (.slice x23.p x23.n x23.c) ∧ (
  CallsH Try.prog n_law38_Powers #[.slice x23.p x23.n x23.c, .int .i64 (x4.n : Int), .int .i64 (200 : Int)] H13 (fun v6 H14 =>
  ∃ p : Sl, v6 = .slice p.p p.n p.c ∧ (
  0 ≤ (x4.n : Int) ∧ (x4.n : Int) ≤ (x4.n : Int) ∧ (x4.n : Int) * ((8 : Nat) : Int) ≤ 281474976710656 ∧ (
  letH (H14.push (.cells (zeroRow (.int .i64 (0 : Int)) (x4.n : Int).toNat) t_int64 (0, 0))) (fun H15 : Heap =>
  ∃ I_3 : Int → Heap → Prop, ∃ M_3 : Int → Heap → Nat, I_3 (0 : Int) H15 ∧ (∀ k : Int, ∀ H16 : Heap, I_3 k H16 → F_law38_HeatRelabeling_r2 R x4 x18 x21 I_2 M_2 i6 H13 H14 p I_3 M_3 k H16))))))))) (
  CallsH Try.prog n_heat_Model_Released #[.pointer x18] H13 (fun v11 H23 =>
  ∃ x33 : Int, v11 = .int .i64 x33 ∧ (
  CallsH Try.prog n_heat_Model_Released #[.pointer x21] H23 (fun v12 H24 =>
  ∃ x34 : Int, v12 = .int .i64 x34 ∧ (
  iteB (x33 == x34) (
  CallsH Try.prog n_law38_awake #[] H24 (fun v13 H25 =>
  ∃ x35 : Bool, v13 = .bool x35 ∧ (
  R (.bool x35) H25))) (
  R (.bool false) H24))))))

def F_law38_HeatRelabeling_r4 (R : Value → Heap → Prop) (power : Sl) (H2 : Heap) (x4 : Sl) (d : Sl) (I_1 : Sl → Int → Heap → Prop) (M_1 : Sl → Int → Heap → Nat) (l : Sl) (i4 : Int) (H8 : Heap) : Prop :=
  iteB (decide (i4 ≥ (0 : Int))) (
  ∃ x9 : Sl, rd H8 ((⟨H2.size, 0, none⟩ : Addr).add 1) = some (.slice x9.p x9.n x9.c) ∧ (
  0 ≤ i4 ∧ i4 < (x9.n : Int) ∧ (unSome x9.p (fun a1 =>
  ∃ x10 : Int, rd H8 ((a1.add (i4.toNat * 3)).add 1) = some (.int .i64 x10) ∧ (
  ∃ x11 : Sl, rd H8 ((⟨H2.size, 0, none⟩ : Addr).add 1) = some (.slice x11.p x11.n x11.c) ∧ (
  0 ≤ i4 ∧ i4 < (x11.n : Int) ∧ (unSome x11.p (fun a2 =>
  ∃ x12 : Int, rd H8 (a2.add (i4.toNat * 3)) = some (.int .i64 x12) ∧ (
  ∃ x13 : Sl, rd H8 ((⟨H2.size, 0, none⟩ : Addr).add 1) = some (.slice x13.p x13.n x13.c) ∧ (
  0 ≤ i4 ∧ i4 < (x13.n : Int) ∧ (unSome x13.p (fun a3 =>
  ∃ x14 : Int, rd H8 ((a3.add (i4.toNat * 3)).add 2) = some (.int .i64 x14) ∧ (
  letH (H8.push (.cells #[.int .i64 (IntKind.i64.wrap ((IntKind.i64.wrap ((x4.n : Int) - (1 : Int))) - x10)), .int .i64 (IntKind.i64.wrap ((IntKind.i64.wrap ((x4.n : Int) - (1 : Int))) - x12)), .int .i64 x14] t_api_HeatLink (0, 0))) (fun H9 : Heap =>
  runH Try.prog (Builtin.append_ #[t_sl_api_HeatLink, t_sl_api_HeatLink] t_sl_api_HeatLink #[.slice l.p l.n l.c, .slice (some (⟨H8.size, 0, none⟩ : Addr)) 1 1]) H9 (fun v3 H10 =>
  ∃ l1 : Sl, v3 = .slice l1.p l1.n l1.c ∧ (
  letV (IntKind.i64.wrap (i4 - (1 : Int))) (fun i5 : Int =>
  I_1 l1 i5 H10 ∧ M_1 l1 i5 H10 < M_1 l i4 H8))))))))))))))))) (
  ∃ x15 : Sl, rd H8 (⟨H2.size, 0, none⟩ : Addr) = some (.slice x15.p x15.n x15.c) ∧ (
  ∃ x16 : Sl, rd H8 ((⟨H2.size, 0, none⟩ : Addr).add 1) = some (.slice x16.p x16.n x16.c) ∧ (
  ∃ x17 : Int, rd H8 ((⟨H2.size, 0, none⟩ : Addr).add 2) = some (.int .i64 x17) ∧ (
  CallsH Try.prog n_heat_New #[.slice x15.p x15.n x15.c, .slice x16.p x16.n x16.c, .int .i64 x17] H8 (fun v4 H11 =>
  ∃ x18 : Option Addr, ∃ x19 : Int, v4 = .tuple #[.pointer x18, .int .i64 x19] ∧ (
  ∃ x20 : Int, rd H11 ((⟨H2.size, 0, none⟩ : Addr).add 2) = some (.int .i64 x20) ∧ (
  CallsH Try.prog n_heat_New #[.slice d.p d.n d.c, .slice l.p l.n l.c, .int .i64 x20] H11 (fun v5 H12 =>
  ∃ x21 : Option Addr, ∃ x22 : Int, v5 = .tuple #[.pointer x21, .int .i64 x22] ∧ (
  iteB (x19 != (0 : Int)) (
  R (.bool false) H12) (
  iteB (x22 != (0 : Int)) (
  R (.bool false) H12) (
  iteB x18.isNone (
  R (.bool false) H12) (
  iteB x21.isNone (
  R (.bool false) H12) (
  ∃ I_2 : Int → Heap → Prop, ∃ M_2 : Int → Heap → Nat, I_2 (0 : Int) H12 ∧ (∀ i6 : Int, ∀ H13 : Heap, I_2 i6 H13 → F_law38_HeatRelabeling_r3 R power x4 x18 x21 I_2 M_2 i6 H13))))))))))))))

def F_law38_HeatRelabeling_r5 (R : Value → Heap → Prop) (power : Sl) (H2 : Heap) (x4 : Sl) (I_ : Sl → Int → Heap → Prop) (M_ : Sl → Int → Heap → Nat) (d : Sl) (i1 : Int) (H5 : Heap) : Prop :=
  iteB (decide (i1 ≥ (0 : Int))) (
  ∃ x5 : Sl, rd H5 (⟨H2.size, 0, none⟩ : Addr) = some (.slice x5.p x5.n x5.c) ∧ (
  0 ≤ i1 ∧ i1 < (x5.n : Int) ∧ (unSome x5.p (fun a =>
  ∃ x6 : Int, rd H5 (a.add (i1.toNat * 2)) = some (.int .i64 x6) ∧ ∃ x7 : Int, rd H5 ((a.add (i1.toNat * 2)).add 1) = some (.int .i64 x7) ∧ (
  letH (H5.push (.cells #[.int .i64 x6, .int .i64 x7] t_api_HeatDomain (0, 0))) (fun H6 : Heap =>
  runH Try.prog (Builtin.append_ #[t_sl_api_HeatDomain, t_sl_api_HeatDomain] t_sl_api_HeatDomain #[.slice d.p d.n d.c, .slice (some (⟨H5.size, 0, none⟩ : Addr)) 1 1]) H6 (fun v2 H7 =>
  ∃ d1 : Sl, v2 = .slice d1.p d1.n d1.c ∧ (
  letV (IntKind.i64.wrap (i1 - (1 : Int))) (fun i2 : Int =>
  I_ d1 i2 H7 ∧ M_ d1 i2 H7 < M_ d i1 H5))))))))) (
  ∃ x8 : Sl, rd H5 ((⟨H2.size, 0, none⟩ : Addr).add 1) = some (.slice x8.p x8.n x8.c) ∧ (
  letV (IntKind.i64.wrap ((x8.n : Int) - (1 : Int))) (fun i3 : Int =>
  ∃ I_1 : Sl → Int → Heap → Prop, ∃ M_1 : Sl → Int → Heap → Nat, I_1 (Sl.mk none 0 0) i3 H5 ∧ (∀ l : Sl, ∀ i4 : Int, ∀ H8 : Heap, I_1 l i4 H8 → F_law38_HeatRelabeling_r4 R power H2 x4 d I_1 M_1 l i4 H8))))

def F_law38_HeatRelabeling (R : Value → Heap → Prop) (domains : Sl) (links : Sl) (ambient : Int) (power : Sl) (H : Heap) : Prop :=
  iteB (decide ((power.n : Int) > (30 : Int))) (
  CallsH Try.prog n_law38_awake #[] H (fun v H1 =>
  ∃ x : Bool, v = .bool x ∧ (
  R (.bool x) H1))) (
  CallsH Try.prog n_law38_Some #[.slice domains.p domains.n domains.c, .slice links.p links.n links.c, .int .i64 ambient] H (fun v1 H2 =>
  ∃ x1 : Sl, ∃ x2 : Sl, ∃ x3 : Int, v1 = .agg #[.slice x1.p x1.n x1.c, .slice x2.p x2.n x2.c, .int .i64 x3] ∧ (
  letH (H2.push (.cells #[.slice none 0 0, .slice none 0 0, .int .i64 (0 : Int)] t_law38_System (0, 0))) (fun H3 : Heap =>
  okRow H3 (⟨H2.size, 0, none⟩ : Addr) 3 ∧ (
  letH (wrs H3 (⟨H2.size, 0, none⟩ : Addr) [.slice x1.p x1.n x1.c, .slice x2.p x2.n x2.c, .int .i64 x3]) (fun H4 : Heap =>
  ∃ x4 : Sl, rd H4 (⟨H2.size, 0, none⟩ : Addr) = some (.slice x4.p x4.n x4.c) ∧ (
  letV (IntKind.i64.wrap ((x4.n : Int) - (1 : Int))) (fun i : Int =>
  ∃ I_ : Sl → Int → Heap → Prop, ∃ M_ : Sl → Int → Heap → Nat, I_ (Sl.mk none 0 0) i H4 ∧ (∀ d : Sl, ∀ i1 : Int, ∀ H5 : Heap, I_ d i1 H5 → F_law38_HeatRelabeling_r5 R power H2 x4 I_ M_ d i1 H5)))))))))

theorem F_law38_HeatRelabeling_eq (R : Value → Heap → Prop) (domains : Sl) (links : Sl) (ambient : Int) (power : Sl) (H : Heap) : wpF Try.prog Try.f6 [(11, .slice none 0 0), (12, .slice none 0 0), (13, .int .i64 0), (14, .int .i64 0), (19, .int .i64 0), (22, .int .i64 0), (27, .int .i64 0)] [] [(8, [11, 13], [3, 9, 10, 12]), (12, [12, 14], [3, 9, 10, 11]), (20, [19], [3, 10, 15, 17]), (25, [22], [3, 10, 15, 17, 19, 20, 21]), (33, [27], [3, 10, 15, 17, 19, 23, 25])] [26] [.slice domains.p domains.n domains.c, .slice links.p links.n links.c, .int .i64 ambient, .slice power.p power.n power.c] H R = F_law38_HeatRelabeling R domains links ambient power H := by kernel_rfl

theorem F_law38_HeatRelabeling_ok {R : Value → Heap → Prop} (domains : Sl) (links : Sl) (ambient : Int) (power : Sl) {H : Heap} (h : F_law38_HeatRelabeling R domains links ambient power H) : CallsH Try.prog n_law38_HeatRelabeling #[.slice domains.p domains.n domains.c, .slice links.p links.n links.c, .int .i64 ambient, .slice power.p power.n power.c] H R :=
  wpF_sound Try.func6 (Eq.mpr (F_law38_HeatRelabeling_eq R domains links ambient power H) h)

/-! ### 7: platformfw/platformfwlaw38.HeatCopies -/

def F_law38_HeatCopies_r1 (R : Value → Heap → Prop) (x5 : Sl) (x9 : Option Addr) (x14 : Option Addr) (c : Option Addr) (I_3 : Int → Heap → Prop) (M_3 : Int → Heap → Nat) (k : Int) (H22 : Heap) : Prop :=
  iteB (decide (k < (x5.n : Int))) (
  CallsH Try.prog n_heat_Model_Energy #[.pointer x9, .int .i64 k] H22 (fun v15 H23 =>
  ∃ x33 : Int, v15 = .int .i64 x33 ∧ (
  CallsH Try.prog n_heat_Model_Energy #[.pointer x14, .int .i64 k] H23 (fun v16 H24 =>
  ∃ x34 : Int, v16 = .int .i64 x34 ∧ (
  iteB (x33 != x34) (
  R (.bool false) H24) (
  CallsH Try.prog n_heat_Model_Energy #[.pointer c, .int .i64 k] H24 (fun v17 H25 =>
  ∃ x35 : Int, v17 = .int .i64 x35 ∧ (
  CallsH Try.prog n_heat_Model_Energy #[.pointer x14, .int .i64 k] H25 (fun v18 H26 =>
  ∃ x36 : Int, v18 = .int .i64 x36 ∧ (
  iteB (x35 != x36) (
  R (.bool false) H26) (
  letV (IntKind.i64.wrap (k + (1 : Int))) (fun k1 : Int =>
  I_3 k1 H26 ∧ M_3 k1 H26 < M_3 k H22)))))))))))) (
  CallsH Try.prog n_heat_Model_Released #[.pointer x9] H22 (fun v19 H27 =>
  ∃ x37 : Int, v19 = .int .i64 x37 ∧ (
  CallsH Try.prog n_heat_Model_Released #[.pointer x14] H27 (fun v20 H28 =>
  ∃ x38 : Int, v20 = .int .i64 x38 ∧ (
  iteB (x37 == x38) (
  CallsH Try.prog n_law38_awake #[] H28 (fun v21 H29 =>
  ∃ x39 : Bool, v21 = .bool x39 ∧ (
  R (.bool x39) H29))) (
  R (.bool false) H28))))))

def F_law38_HeatCopies_r2 (R : Value → Heap → Prop) (after : Sl) (x5 : Sl) (x9 : Option Addr) (x14 : Option Addr) (c : Option Addr) (I_2 : Int → Heap → Prop) (M_2 : Int → Heap → Nat) (i4 : Int) (H19 : Heap) : Prop :=
  iteB (decide (i4 < (after.n : Int))) (
  0 ≤ i4 ∧ i4 < (after.n : Int) ∧ (unSome after.p (fun a3 =>
  ∃ x30 : Sl, rd H19 (a3.add (i4.toNat * 1)) = some (.slice x30.p x30.n x30.c) ∧ (
  CallsH Try.prog n_law38_Powers #[.slice x30.p x30.n x30.c, .int .i64 (x5.n : Int), .int .i64 (200 : Int)] H19 (fun v13 H20 =>
  ∃ p1 : Sl, v13 = .slice p1.p p1.n p1.c ∧ (
  CallsH Try.prog n_heat_Model_Step #[.pointer x9, .slice p1.p p1.n p1.c] H20 (fun v14 H21 =>
  ∃ x31 : Sl, ∃ x32 : Int, v14 = .tuple #[.slice x31.p x31.n x31.c, .int .i64 x32] ∧ (
  iteB (x32 != (0 : Int)) (
  R (.bool false) H21) (
  letV (IntKind.i64.wrap (i4 + (1 : Int))) (fun i5 : Int =>
  I_2 i5 H21 ∧ M_2 i5 H21 < M_2 i4 H19)))))))))) (
  ∃ I_3 : Int → Heap → Prop, ∃ M_3 : Int → Heap → Nat, I_3 (0 : Int) H19 ∧ (∀ k : Int, ∀ H22 : Heap, I_3 k H22 → F_law38_HeatCopies_r1 R x5 x9 x14 c I_3 M_3 k H22))

def F_law38_HeatCopies_r3 (R : Value → Heap → Prop) (after : Sl) (x5 : Sl) (x9 : Option Addr) (x14 : Option Addr) (c : Option Addr) (I_1 : Int → Heap → Prop) (M_1 : Int → Heap → Nat) (i2 : Int) (H14 : Heap) : Prop :=
  iteB (decide (i2 < (after.n : Int))) (
  0 ≤ i2 ∧ i2 < (after.n : Int) ∧ (unSome after.p (fun a2 =>
  ∃ x24 : Sl, rd H14 (a2.add (i2.toNat * 1)) = some (.slice x24.p x24.n x24.c) ∧ (
  CallsH Try.prog n_law38_Powers #[.slice x24.p x24.n x24.c, .int .i64 (x5.n : Int), .int .i64 (200 : Int)] H14 (fun v9 H15 =>
  ∃ p : Sl, v9 = .slice p.p p.n p.c ∧ (
  CallsH Try.prog n_heat_Model_Step #[.pointer c, .slice p.p p.n p.c] H15 (fun v10 H16 =>
  ∃ x25 : Sl, ∃ x26 : Int, v10 = .tuple #[.slice x25.p x25.n x25.c, .int .i64 x26] ∧ (
  CallsH Try.prog n_heat_Model_Step #[.pointer x14, .slice p.p p.n p.c] H16 (fun v11 H17 =>
  ∃ x27 : Sl, ∃ x28 : Int, v11 = .tuple #[.slice x27.p x27.n x27.c, .int .i64 x28] ∧ (
  iteB (x26 != x28) (
  R (.bool false) H17) (
  CallsH Try.prog n_help_Equal_int64 #[.slice x25.p x25.n x25.c, .slice x27.p x27.n x27.c] H17 (fun v12 H18 =>
  ∃ x29 : Bool, v12 = .bool x29 ∧ (
  iteB (!x29) (
  R (.bool false) H18) (
  letV (IntKind.i64.wrap (i2 + (1 : Int))) (fun i3 : Int =>
  I_1 i3 H18 ∧ M_1 i3 H18 < M_1 i2 H14))))))))))))))) (
  ∃ I_2 : Int → Heap → Prop, ∃ M_2 : Int → Heap → Nat, I_2 (0 : Int) H14 ∧ (∀ i4 : Int, ∀ H19 : Heap, I_2 i4 H19 → F_law38_HeatCopies_r2 R after x5 x9 x14 c I_2 M_2 i4 H19))

def F_law38_HeatCopies_r4 (R : Value → Heap → Prop) (before : Sl) (after : Sl) (x5 : Sl) (x9 : Option Addr) (x14 : Option Addr) (I_ : Int → Heap → Prop) (M_ : Int → Heap → Nat) (i : Int) (H8 : Heap) : Prop :=
  iteB (decide (i < (before.n : Int))) (
  0 ≤ i ∧ i < (before.n : Int) ∧ (unSome before.p (fun a =>
  ∃ x16 : Sl, rd H8 (a.add (i.toNat * 1)) = some (.slice x16.p x16.n x16.c) ∧ (
  CallsH Try.prog n_law38_Powers #[.slice x16.p x16.n x16.c, .int .i64 (x5.n : Int), .int .i64 (200 : Int)] H8 (fun v4 H9 =>
  ∃ x17 : Sl, v4 = .slice x17.p x17.n x17.c ∧ (
  CallsH Try.prog n_heat_Model_Step #[.pointer x9, .slice x17.p x17.n x17.c] H9 (fun v5 H10 =>
  ∃ x18 : Sl, ∃ x19 : Int, v5 = .tuple #[.slice x18.p x18.n x18.c, .int .i64 x19] ∧ (
  0 ≤ i ∧ i < (before.n : Int) ∧ (unSome before.p (fun a1 =>
  ∃ x20 : Sl, rd H10 (a1.add (i.toNat * 1)) = some (.slice x20.p x20.n x20.c) ∧ (
  CallsH Try.prog n_law38_Powers #[.slice x20.p x20.n x20.c, .int .i64 (x5.n : Int), .int .i64 (200 : Int)] H10 (fun v6 H11 =>
  ∃ x21 : Sl, v6 = .slice x21.p x21.n x21.c ∧ (
  CallsH Try.prog n_heat_Model_Step #[.pointer x14, .slice x21.p x21.n x21.c] H11 (fun v7 H12 =>
  ∃ x22 : Sl, ∃ x23 : Int, v7 = .tuple #[.slice x22.p x22.n x22.c, .int .i64 x23] ∧ (
  letV (IntKind.i64.wrap (i + (1 : Int))) (fun i1 : Int =>
  I_ i1 H12 ∧ M_ i1 H12 < M_ i H8)))))))))))))))) (
  CallsH Try.prog n_heat_Model_Copy #[.pointer x9] H8 (fun v8 H13 =>
  ∃ c : Option Addr, v8 = .pointer c ∧ (
  iteB c.isNone (
  R (.bool false) H13) (
  ∃ I_1 : Int → Heap → Prop, ∃ M_1 : Int → Heap → Nat, I_1 (0 : Int) H13 ∧ (∀ i2 : Int, ∀ H14 : Heap, I_1 i2 H14 → F_law38_HeatCopies_r3 R after x5 x9 x14 c I_1 M_1 i2 H14)))))

def F_law38_HeatCopies_k5 (R : Value → Heap → Prop) (domains : Sl) (links : Sl) (ambient : Int) (before : Sl) (after : Sl) (x : Bool) (H1 : Heap) : Prop :=
  iteB x (
  CallsH Try.prog n_law38_awake #[] H1 (fun v H2 =>
  ∃ x1 : Bool, v = .bool x1 ∧ (
  R (.bool x1) H2))) (
  CallsH Try.prog n_law38_Some #[.slice domains.p domains.n domains.c, .slice links.p links.n links.c, .int .i64 ambient] H1 (fun v1 H3 =>
  ∃ x2 : Sl, ∃ x3 : Sl, ∃ x4 : Int, v1 = .agg #[.slice x2.p x2.n x2.c, .slice x3.p x3.n x3.c, .int .i64 x4] ∧ (
  letH (H3.push (.cells #[.slice none 0 0, .slice none 0 0, .int .i64 (0 : Int)] t_law38_System (0, 0))) (fun H4 : Heap =>
  okRow H4 (⟨H3.size, 0, none⟩ : Addr) 3 ∧ (
  letH (wrs H4 (⟨H3.size, 0, none⟩ : Addr) [.slice x2.p x2.n x2.c, .slice x3.p x3.n x3.c, .int .i64 x4]) (fun H5 : Heap =>
  ∃ x5 : Sl, rd H5 (⟨H3.size, 0, none⟩ : Addr) = some (.slice x5.p x5.n x5.c) ∧ (
  ∃ x6 : Sl, rd H5 (⟨H3.size, 0, none⟩ : Addr) = some (.slice x6.p x6.n x6.c) ∧ (
  ∃ x7 : Sl, rd H5 ((⟨H3.size, 0, none⟩ : Addr).add 1) = some (.slice x7.p x7.n x7.c) ∧ (
  ∃ x8 : Int, rd H5 ((⟨H3.size, 0, none⟩ : Addr).add 2) = some (.int .i64 x8) ∧ (
  CallsH Try.prog n_heat_New #[.slice x6.p x6.n x6.c, .slice x7.p x7.n x7.c, .int .i64 x8] H5 (fun v2 H6 =>
  ∃ x9 : Option Addr, ∃ x10 : Int, v2 = .tuple #[.pointer x9, .int .i64 x10] ∧ (
  ∃ x11 : Sl, rd H6 (⟨H3.size, 0, none⟩ : Addr) = some (.slice x11.p x11.n x11.c) ∧ (
  ∃ x12 : Sl, rd H6 ((⟨H3.size, 0, none⟩ : Addr).add 1) = some (.slice x12.p x12.n x12.c) ∧ (
  ∃ x13 : Int, rd H6 ((⟨H3.size, 0, none⟩ : Addr).add 2) = some (.int .i64 x13) ∧ (
  CallsH Try.prog n_heat_New #[.slice x11.p x11.n x11.c, .slice x12.p x12.n x12.c, .int .i64 x13] H6 (fun v3 H7 =>
  ∃ x14 : Option Addr, ∃ x15 : Int, v3 = .tuple #[.pointer x14, .int .i64 x15] ∧ (
  iteB (x10 != (0 : Int)) (
  R (.bool false) H7) (
  iteB (x15 != (0 : Int)) (
  R (.bool false) H7) (
  iteB x9.isNone (
  R (.bool false) H7) (
  iteB x14.isNone (
  R (.bool false) H7) (
  ∃ I_ : Int → Heap → Prop, ∃ M_ : Int → Heap → Nat, I_ (0 : Int) H7 ∧ (∀ i : Int, ∀ H8 : Heap, I_ i H8 → F_law38_HeatCopies_r4 R before after x5 x9 x14 I_ M_ i H8))))))))))))))))))))))

def F_law38_HeatCopies (R : Value → Heap → Prop) (domains : Sl) (links : Sl) (ambient : Int) (before : Sl) (after : Sl) (H : Heap) : Prop :=
  ∃ J_ : Bool → Heap → Prop, (
  iteB (decide ((before.n : Int) > (20 : Int))) (
  J_ true H) (
  J_ (decide ((after.n : Int) > (20 : Int))) H)) ∧ (∀ x : Bool, ∀ H1 : Heap, J_ x H1 → F_law38_HeatCopies_k5 R domains links ambient before after x H1)

theorem F_law38_HeatCopies_eq (R : Value → Heap → Prop) (domains : Sl) (links : Sl) (ambient : Int) (before : Sl) (after : Sl) (H : Heap) : wpF Try.prog Try.f7 [(17, .int .i64 0), (19, .int .i64 0), (25, .int .i64 0), (29, .int .i64 0), (37, .bool false)] [(2, [37], [0, 1, 2, 3, 4])] [(10, [17], [3, 4, 12, 13, 15]), (18, [19], [4, 12, 13, 15, 18]), (26, [25], [4, 12, 13, 15, 18]), (33, [29], [12, 13, 15, 18])] [26] [.slice domains.p domains.n domains.c, .slice links.p links.n links.c, .int .i64 ambient, .slice before.p before.n before.c, .slice after.p after.n after.c] H R = F_law38_HeatCopies R domains links ambient before after H := by kernel_rfl

theorem F_law38_HeatCopies_ok {R : Value → Heap → Prop} (domains : Sl) (links : Sl) (ambient : Int) (before : Sl) (after : Sl) {H : Heap} (h : F_law38_HeatCopies R domains links ambient before after H) : CallsH Try.prog n_law38_HeatCopies #[.slice domains.p domains.n domains.c, .slice links.p links.n links.c, .int .i64 ambient, .slice before.p before.n before.c, .slice after.p after.n after.c] H R :=
  wpF_sound Try.func7 (Eq.mpr (F_law38_HeatCopies_eq R domains links ambient before after H) h)

/-! ### 8: platformfw/platformfwlaw38.HeatNewAgrees -/

def F_law38_HeatNewAgrees_r1 (R : Value → Heap → Prop) (domains : Sl) (links : Sl) (ambient : Int) (power : Sl) (x17 : Sl) (x18 : Sl) (x19 : Int) (x20 : Sl) (x21 : Sl) (x22 : Int) (I_ : Int → Heap → Prop) (M_ : Int → Heap → Nat) (x23 : Int) (H18 : Heap) : Prop :=
  iteB (decide (x23 < (3 : Int))) (
  0 ≤ x23 ∧ x23 < ((3 : Nat) : Int) ∧ (iteB (x23 == (0 : Int)) (
  letH (H18.push (.cells #[.slice none 0 0, .slice none 0 0, .int .i64 (0 : Int)] t_law38_System (0, 0))) (fun H19 : Heap =>
  okRow H19 (⟨H18.size, 0, none⟩ : Addr) 3 ∧ (
  letH (wrs H19 (⟨H18.size, 0, none⟩ : Addr) [.slice domains.p domains.n domains.c, .slice links.p links.n links.c, .int .i64 ambient]) (fun H20 : Heap =>
  ∃ x24 : Sl, rd H20 (⟨H18.size, 0, none⟩ : Addr) = some (.slice x24.p x24.n x24.c) ∧ (
  ∃ x25 : Sl, rd H20 ((⟨H18.size, 0, none⟩ : Addr).add 1) = some (.slice x25.p x25.n x25.c) ∧ (
  ∃ x26 : Int, rd H20 ((⟨H18.size, 0, none⟩ : Addr).add 2) = some (.int .i64 x26) ∧ (
  CallsH Try.prog n_heat_New #[.slice x24.p x24.n x24.c, .slice x25.p x25.n x25.c, .int .i64 x26] H20 (fun v7 H21 =>
  ∃ x27 : Option Addr, ∃ x28 : Int, v7 = .tuple #[.pointer x27, .int .i64 x28] ∧ (
  ∃ x29 : Sl, rd H21 (⟨H18.size, 0, none⟩ : Addr) = some (.slice x29.p x29.n x29.c) ∧ (
  ∃ x30 : Sl, rd H21 ((⟨H18.size, 0, none⟩ : Addr).add 1) = some (.slice x30.p x30.n x30.c) ∧ (
  ∃ x31 : Int, rd H21 ((⟨H18.size, 0, none⟩ : Addr).add 2) = some (.int .i64 x31) ∧ (
  CallsH Try.prog n_ref38_New #[.slice x29.p x29.n x29.c, .slice x30.p x30.n x30.c, .int .i64 x31] H21 (fun v8 H22 =>
  ∃ x32 : Option Addr, ∃ x33 : Int, v8 = .tuple #[.pointer x32, .int .i64 x33] ∧ (
  ∃ x34 : Sl, rd H22 (⟨H18.size, 0, none⟩ : Addr) = some (.slice x34.p x34.n x34.c) ∧ (
  CallsH Try.prog n_law38_Powers #[.slice power.p power.n power.c, .int .i64 (x34.n : Int), .int .i64 (200 : Int)] H22 (fun v9 H23 =>
  ∃ p : Sl, v9 = .slice p.p p.n p.c ∧ (
  ∃ x35 : Sl, rd H23 (⟨H18.size, 0, none⟩ : Addr) = some (.slice x35.p x35.n x35.c) ∧ (
  ∃ x36 : Sl, rd H23 ((⟨H18.size, 0, none⟩ : Addr).add 1) = some (.slice x36.p x36.n x36.c) ∧ (
  ∃ x37 : Int, rd H23 ((⟨H18.size, 0, none⟩ : Addr).add 2) = some (.int .i64 x37) ∧ (
  CallsH Try.prog n_heat_Bound #[.slice x35.p x35.n x35.c, .slice x36.p x36.n x36.c, .int .i64 x37, .slice p.p p.n p.c] H23 (fun v10 H24 =>
  ∃ x38 : Int, ∃ x39 : Int, v10 = .tuple #[.int .i64 x38, .int .i64 x39] ∧ (
  ∃ x40 : Sl, rd H24 (⟨H18.size, 0, none⟩ : Addr) = some (.slice x40.p x40.n x40.c) ∧ (
  ∃ x41 : Sl, rd H24 ((⟨H18.size, 0, none⟩ : Addr).add 1) = some (.slice x41.p x41.n x41.c) ∧ (
  ∃ x42 : Int, rd H24 ((⟨H18.size, 0, none⟩ : Addr).add 2) = some (.int .i64 x42) ∧ (
  CallsH Try.prog n_ref38_Bound #[.slice x40.p x40.n x40.c, .slice x41.p x41.n x41.c, .int .i64 x42, .slice p.p p.n p.c] H24 (fun v11 H25 =>
  ∃ x43 : Int, ∃ x44 : Int, v11 = .tuple #[.int .i64 x43, .int .i64 x44] ∧ (
  ∃ x45 : Sl, rd H25 (⟨H18.size, 0, none⟩ : Addr) = some (.slice x45.p x45.n x45.c) ∧ (
  ∃ x46 : Sl, rd H25 ((⟨H18.size, 0, none⟩ : Addr).add 1) = some (.slice x46.p x46.n x46.c) ∧ (
  ∃ x47 : Int, rd H25 ((⟨H18.size, 0, none⟩ : Addr).add 2) = some (.int .i64 x47) ∧ (
  CallsH Try.prog n_heat_Bound #[.slice x45.p x45.n x45.c, .slice x46.p x46.n x46.c, .int .i64 x47, .slice power.p power.n power.c] H25 (fun v12 H26 =>
  ∃ x48 : Int, ∃ x49 : Int, v12 = .tuple #[.int .i64 x48, .int .i64 x49] ∧ (
  ∃ x50 : Sl, rd H26 (⟨H18.size, 0, none⟩ : Addr) = some (.slice x50.p x50.n x50.c) ∧ (
  ∃ x51 : Sl, rd H26 ((⟨H18.size, 0, none⟩ : Addr).add 1) = some (.slice x51.p x51.n x51.c) ∧ (
  ∃ x52 : Int, rd H26 ((⟨H18.size, 0, none⟩ : Addr).add 2) = some (.int .i64 x52) ∧ (
  CallsH Try.prog n_ref38_Bound #[.slice x50.p x50.n x50.c, .slice x51.p x51.n x51.c, .int .i64 x52, .slice power.p power.n power.c] H26 (fun v13 H27 =>
  ∃ x53 : Int, ∃ x54 : Int, v13 = .tuple #[.int .i64 x53, .int .i64 x54] ∧ (
  iteB (x28 != x33) (
  R (.bool false) H27) (
  iteB (!(x27.isNone == (x28 != (0 : Int)))) (
  R (.bool false) H27) (
  iteB (x38 != x43) (
  R (.bool false) H27) (
  iteB (x39 != x44) (
  R (.bool false) H27) (
  iteB (x48 != x53) (
  R (.bool false) H27) (
  iteB (x49 != x54) (
  R (.bool false) H27) (
  I_ (IntKind.i64.wrap (x23 + (1 : Int))) H27 ∧ M_ (IntKind.i64.wrap (x23 + (1 : Int))) H27 < M_ x23 H18))))))))))))))))))))))))))))))))))))))))))) (
  iteB (x23 == (1 : Int)) (
  letH (H18.push (.cells #[.slice none 0 0, .slice none 0 0, .int .i64 (0 : Int)] t_law38_System (0, 0))) (fun H28 : Heap =>
  okRow H28 (⟨H18.size, 0, none⟩ : Addr) 3 ∧ (
  letH (wrs H28 (⟨H18.size, 0, none⟩ : Addr) [.slice x17.p x17.n x17.c, .slice x18.p x18.n x18.c, .int .i64 x19]) (fun H29 : Heap =>
  ∃ x55 : Sl, rd H29 (⟨H18.size, 0, none⟩ : Addr) = some (.slice x55.p x55.n x55.c) ∧ (
  ∃ x56 : Sl, rd H29 ((⟨H18.size, 0, none⟩ : Addr).add 1) = some (.slice x56.p x56.n x56.c) ∧ (
  ∃ x57 : Int, rd H29 ((⟨H18.size, 0, none⟩ : Addr).add 2) = some (.int .i64 x57) ∧ (
  CallsH Try.prog n_heat_New #[.slice x55.p x55.n x55.c, .slice x56.p x56.n x56.c, .int .i64 x57] H29 (fun v14 H30 =>
  ∃ x58 : Option Addr, ∃ x59 : Int, v14 = .tuple #[.pointer x58, .int .i64 x59] ∧ (
  ∃ x60 : Sl, rd H30 (⟨H18.size, 0, none⟩ : Addr) = some (.slice x60.p x60.n x60.c) ∧ (
  ∃ x61 : Sl, rd H30 ((⟨H18.size, 0, none⟩ : Addr).add 1) = some (.slice x61.p x61.n x61.c) ∧ (
  ∃ x62 : Int, rd H30 ((⟨H18.size, 0, none⟩ : Addr).add 2) = some (.int .i64 x62) ∧ (
  CallsH Try.prog n_ref38_New #[.slice x60.p x60.n x60.c, .slice x61.p x61.n x61.c, .int .i64 x62] H30 (fun v15 H31 =>
  ∃ x63 : Option Addr, ∃ x64 : Int, v15 = .tuple #[.pointer x63, .int .i64 x64] ∧ (
  ∃ x65 : Sl, rd H31 (⟨H18.size, 0, none⟩ : Addr) = some (.slice x65.p x65.n x65.c) ∧ (
  CallsH Try.prog n_law38_Powers #[.slice power.p power.n power.c, .int .i64 (x65.n : Int), .int .i64 (200 : Int)] H31 (fun v16 H32 =>
  ∃ p1 : Sl, v16 = .slice p1.p p1.n p1.c ∧ (
  ∃ x66 : Sl, rd H32 (⟨H18.size, 0, none⟩ : Addr) = some (.slice x66.p x66.n x66.c) ∧ (
  ∃ x67 : Sl, rd H32 ((⟨H18.size, 0, none⟩ : Addr).add 1) = some (.slice x67.p x67.n x67.c) ∧ (
  ∃ x68 : Int, rd H32 ((⟨H18.size, 0, none⟩ : Addr).add 2) = some (.int .i64 x68) ∧ (
  CallsH Try.prog n_heat_Bound #[.slice x66.p x66.n x66.c, .slice x67.p x67.n x67.c, .int .i64 x68, .slice p1.p p1.n p1.c] H32 (fun v17 H33 =>
  ∃ x69 : Int, ∃ x70 : Int, v17 = .tuple #[.int .i64 x69, .int .i64 x70] ∧ (
  ∃ x71 : Sl, rd H33 (⟨H18.size, 0, none⟩ : Addr) = some (.slice x71.p x71.n x71.c) ∧ (
  ∃ x72 : Sl, rd H33 ((⟨H18.size, 0, none⟩ : Addr).add 1) = some (.slice x72.p x72.n x72.c) ∧ (
  ∃ x73 : Int, rd H33 ((⟨H18.size, 0, none⟩ : Addr).add 2) = some (.int .i64 x73) ∧ (
  CallsH Try.prog n_ref38_Bound #[.slice x71.p x71.n x71.c, .slice x72.p x72.n x72.c, .int .i64 x73, .slice p1.p p1.n p1.c] H33 (fun v18 H34 =>
  ∃ x74 : Int, ∃ x75 : Int, v18 = .tuple #[.int .i64 x74, .int .i64 x75] ∧ (
  ∃ x76 : Sl, rd H34 (⟨H18.size, 0, none⟩ : Addr) = some (.slice x76.p x76.n x76.c) ∧ (
  ∃ x77 : Sl, rd H34 ((⟨H18.size, 0, none⟩ : Addr).add 1) = some (.slice x77.p x77.n x77.c) ∧ (
  ∃ x78 : Int, rd H34 ((⟨H18.size, 0, none⟩ : Addr).add 2) = some (.int .i64 x78) ∧ (
  CallsH Try.prog n_heat_Bound #[.slice x76.p x76.n x76.c, .slice x77.p x77.n x77.c, .int .i64 x78, .slice power.p power.n power.c] H34 (fun v19 H35 =>
  ∃ x79 : Int, ∃ x80 : Int, v19 = .tuple #[.int .i64 x79, .int .i64 x80] ∧ (
  ∃ x81 : Sl, rd H35 (⟨H18.size, 0, none⟩ : Addr) = some (.slice x81.p x81.n x81.c) ∧ (
  ∃ x82 : Sl, rd H35 ((⟨H18.size, 0, none⟩ : Addr).add 1) = some (.slice x82.p x82.n x82.c) ∧ (
  ∃ x83 : Int, rd H35 ((⟨H18.size, 0, none⟩ : Addr).add 2) = some (.int .i64 x83) ∧ (
  CallsH Try.prog n_ref38_Bound #[.slice x81.p x81.n x81.c, .slice x82.p x82.n x82.c, .int .i64 x83, .slice power.p power.n power.c] H35 (fun v20 H36 =>
  ∃ x84 : Int, ∃ x85 : Int, v20 = .tuple #[.int .i64 x84, .int .i64 x85] ∧ (
  iteB (x59 != x64) (
  R (.bool false) H36) (
  iteB (!(x58.isNone == (x59 != (0 : Int)))) (
  R (.bool false) H36) (
  iteB (x69 != x74) (
  R (.bool false) H36) (
  iteB (x70 != x75) (
  R (.bool false) H36) (
  iteB (x79 != x84) (
  R (.bool false) H36) (
  iteB (x80 != x85) (
  R (.bool false) H36) (
  I_ (IntKind.i64.wrap (x23 + (1 : Int))) H36 ∧ M_ (IntKind.i64.wrap (x23 + (1 : Int))) H36 < M_ x23 H18))))))))))))))))))))))))))))))))))))))))))) (
  iteB (x23 == (2 : Int)) (
  letH (H18.push (.cells #[.slice none 0 0, .slice none 0 0, .int .i64 (0 : Int)] t_law38_System (0, 0))) (fun H37 : Heap =>
  okRow H37 (⟨H18.size, 0, none⟩ : Addr) 3 ∧ (
  letH (wrs H37 (⟨H18.size, 0, none⟩ : Addr) [.slice x20.p x20.n x20.c, .slice x21.p x21.n x21.c, .int .i64 x22]) (fun H38 : Heap =>
  ∃ x86 : Sl, rd H38 (⟨H18.size, 0, none⟩ : Addr) = some (.slice x86.p x86.n x86.c) ∧ (
  ∃ x87 : Sl, rd H38 ((⟨H18.size, 0, none⟩ : Addr).add 1) = some (.slice x87.p x87.n x87.c) ∧ (
  ∃ x88 : Int, rd H38 ((⟨H18.size, 0, none⟩ : Addr).add 2) = some (.int .i64 x88) ∧ (
  CallsH Try.prog n_heat_New #[.slice x86.p x86.n x86.c, .slice x87.p x87.n x87.c, .int .i64 x88] H38 (fun v21 H39 =>
  ∃ x89 : Option Addr, ∃ x90 : Int, v21 = .tuple #[.pointer x89, .int .i64 x90] ∧ (
  ∃ x91 : Sl, rd H39 (⟨H18.size, 0, none⟩ : Addr) = some (.slice x91.p x91.n x91.c) ∧ (
  ∃ x92 : Sl, rd H39 ((⟨H18.size, 0, none⟩ : Addr).add 1) = some (.slice x92.p x92.n x92.c) ∧ (
  ∃ x93 : Int, rd H39 ((⟨H18.size, 0, none⟩ : Addr).add 2) = some (.int .i64 x93) ∧ (
  CallsH Try.prog n_ref38_New #[.slice x91.p x91.n x91.c, .slice x92.p x92.n x92.c, .int .i64 x93] H39 (fun v22 H40 =>
  ∃ x94 : Option Addr, ∃ x95 : Int, v22 = .tuple #[.pointer x94, .int .i64 x95] ∧ (
  ∃ x96 : Sl, rd H40 (⟨H18.size, 0, none⟩ : Addr) = some (.slice x96.p x96.n x96.c) ∧ (
  CallsH Try.prog n_law38_Powers #[.slice power.p power.n power.c, .int .i64 (x96.n : Int), .int .i64 (200 : Int)] H40 (fun v23 H41 =>
  ∃ p2 : Sl, v23 = .slice p2.p p2.n p2.c ∧ (
  ∃ x97 : Sl, rd H41 (⟨H18.size, 0, none⟩ : Addr) = some (.slice x97.p x97.n x97.c) ∧ (
  ∃ x98 : Sl, rd H41 ((⟨H18.size, 0, none⟩ : Addr).add 1) = some (.slice x98.p x98.n x98.c) ∧ (
  ∃ x99 : Int, rd H41 ((⟨H18.size, 0, none⟩ : Addr).add 2) = some (.int .i64 x99) ∧ (
  CallsH Try.prog n_heat_Bound #[.slice x97.p x97.n x97.c, .slice x98.p x98.n x98.c, .int .i64 x99, .slice p2.p p2.n p2.c] H41 (fun v24 H42 =>
  ∃ x100 : Int, ∃ x101 : Int, v24 = .tuple #[.int .i64 x100, .int .i64 x101] ∧ (
  ∃ x102 : Sl, rd H42 (⟨H18.size, 0, none⟩ : Addr) = some (.slice x102.p x102.n x102.c) ∧ (
  ∃ x103 : Sl, rd H42 ((⟨H18.size, 0, none⟩ : Addr).add 1) = some (.slice x103.p x103.n x103.c) ∧ (
  ∃ x104 : Int, rd H42 ((⟨H18.size, 0, none⟩ : Addr).add 2) = some (.int .i64 x104) ∧ (
  CallsH Try.prog n_ref38_Bound #[.slice x102.p x102.n x102.c, .slice x103.p x103.n x103.c, .int .i64 x104, .slice p2.p p2.n p2.c] H42 (fun v25 H43 =>
  ∃ x105 : Int, ∃ x106 : Int, v25 = .tuple #[.int .i64 x105, .int .i64 x106] ∧ (
  ∃ x107 : Sl, rd H43 (⟨H18.size, 0, none⟩ : Addr) = some (.slice x107.p x107.n x107.c) ∧ (
  ∃ x108 : Sl, rd H43 ((⟨H18.size, 0, none⟩ : Addr).add 1) = some (.slice x108.p x108.n x108.c) ∧ (
  ∃ x109 : Int, rd H43 ((⟨H18.size, 0, none⟩ : Addr).add 2) = some (.int .i64 x109) ∧ (
  CallsH Try.prog n_heat_Bound #[.slice x107.p x107.n x107.c, .slice x108.p x108.n x108.c, .int .i64 x109, .slice power.p power.n power.c] H43 (fun v26 H44 =>
  ∃ x110 : Int, ∃ x111 : Int, v26 = .tuple #[.int .i64 x110, .int .i64 x111] ∧ (
  ∃ x112 : Sl, rd H44 (⟨H18.size, 0, none⟩ : Addr) = some (.slice x112.p x112.n x112.c) ∧ (
  ∃ x113 : Sl, rd H44 ((⟨H18.size, 0, none⟩ : Addr).add 1) = some (.slice x113.p x113.n x113.c) ∧ (
  ∃ x114 : Int, rd H44 ((⟨H18.size, 0, none⟩ : Addr).add 2) = some (.int .i64 x114) ∧ (
  CallsH Try.prog n_ref38_Bound #[.slice x112.p x112.n x112.c, .slice x113.p x113.n x113.c, .int .i64 x114, .slice power.p power.n power.c] H44 (fun v27 H45 =>
  ∃ x115 : Int, ∃ x116 : Int, v27 = .tuple #[.int .i64 x115, .int .i64 x116] ∧ (
  iteB (x90 != x95) (
  R (.bool false) H45) (
  iteB (!(x89.isNone == (x90 != (0 : Int)))) (
  R (.bool false) H45) (
  iteB (x100 != x105) (
  R (.bool false) H45) (
  iteB (x101 != x106) (
  R (.bool false) H45) (
  iteB (x110 != x115) (
  R (.bool false) H45) (
  iteB (x111 != x116) (
  R (.bool false) H45) (
  I_ (IntKind.i64.wrap (x23 + (1 : Int))) H45 ∧ M_ (IntKind.i64.wrap (x23 + (1 : Int))) H45 < M_ x23 H18))))))))))))))))))))))))))))))))))))))))))) (
  False))))) (
  CallsH Try.prog n_law38_awake #[] H18 (fun v28 H46 =>
  ∃ x117 : Bool, v28 = .bool x117 ∧ (
  R (.bool x117) H46)))

def F_law38_HeatNewAgrees_k2 (R : Value → Heap → Prop) (domains : Sl) (links : Sl) (ambient : Int) (power : Sl) (H3 : Heap) (H6 : Heap) (H17 : Heap) : Prop :=
  ∃ x17 : Sl, rd H17 (⟨H3.size, 0, none⟩ : Addr) = some (.slice x17.p x17.n x17.c) ∧ ∃ x18 : Sl, rd H17 ((⟨H3.size, 0, none⟩ : Addr).add 1) = some (.slice x18.p x18.n x18.c) ∧ ∃ x19 : Int, rd H17 ((⟨H3.size, 0, none⟩ : Addr).add 2) = some (.int .i64 x19) ∧ (
  ∃ x20 : Sl, rd H17 (⟨H6.size, 0, none⟩ : Addr) = some (.slice x20.p x20.n x20.c) ∧ ∃ x21 : Sl, rd H17 ((⟨H6.size, 0, none⟩ : Addr).add 1) = some (.slice x21.p x21.n x21.c) ∧ ∃ x22 : Int, rd H17 ((⟨H6.size, 0, none⟩ : Addr).add 2) = some (.int .i64 x22) ∧ (
  ∃ I_ : Int → Heap → Prop, ∃ M_ : Int → Heap → Nat, I_ (0 : Int) H17 ∧ (∀ x23 : Int, ∀ H18 : Heap, I_ x23 H18 → F_law38_HeatNewAgrees_r1 R domains links ambient power x17 x18 x19 x20 x21 x22 I_ M_ x23 H18)))

def F_law38_HeatNewAgrees_k3 (R : Value → Heap → Prop) (domains : Sl) (links : Sl) (ambient : Int) (power : Sl) (k : Int) (v : Int) (how : Int) (x : Bool) (H1 : Heap) : Prop :=
  iteB x (
  CallsH Try.prog n_law38_awake #[] H1 (fun v1 H2 =>
  ∃ x1 : Bool, v1 = .bool x1 ∧ (
  R (.bool x1) H2))) (
  CallsH Try.prog n_law38_Some #[.slice domains.p domains.n domains.c, .slice links.p links.n links.c, .int .i64 ambient] H1 (fun v2 H3 =>
  ∃ x2 : Sl, ∃ x3 : Sl, ∃ x4 : Int, v2 = .agg #[.slice x2.p x2.n x2.c, .slice x3.p x3.n x3.c, .int .i64 x4] ∧ (
  letH (H3.push (.cells #[.slice none 0 0, .slice none 0 0, .int .i64 (0 : Int)] t_law38_System (0, 0))) (fun H4 : Heap =>
  okRow H4 (⟨H3.size, 0, none⟩ : Addr) 3 ∧ (
  letH (wrs H4 (⟨H3.size, 0, none⟩ : Addr) [.slice x2.p x2.n x2.c, .slice x3.p x3.n x3.c, .int .i64 x4]) (fun H5 : Heap =>
  CallsH Try.prog n_law38_Some #[.slice domains.p domains.n domains.c, .slice links.p links.n links.c, .int .i64 ambient] H5 (fun v3 H6 =>
  ∃ x5 : Sl, ∃ x6 : Sl, ∃ x7 : Int, v3 = .agg #[.slice x5.p x5.n x5.c, .slice x6.p x6.n x6.c, .int .i64 x7] ∧ (
  letH (H6.push (.cells #[.slice none 0 0, .slice none 0 0, .int .i64 (0 : Int)] t_law38_System (0, 0))) (fun H7 : Heap =>
  okRow H7 (⟨H6.size, 0, none⟩ : Addr) 3 ∧ (
  letH (wrs H7 (⟨H6.size, 0, none⟩ : Addr) [.slice x5.p x5.n x5.c, .slice x6.p x6.n x6.c, .int .i64 x7]) (fun H8 : Heap =>
  ∃ x8 : Sl, rd H8 (⟨H6.size, 0, none⟩ : Addr) = some (.slice x8.p x8.n x8.c) ∧ (
  CallsH Try.prog n_help_Mod #[.int .i64 k, .int .i64 (x8.n : Int)] H8 (fun v4 H9 =>
  ∃ i : Int, v4 = .int .i64 i ∧ (
  ∃ J_1 : Heap → Prop, (
  iteB ((how.tmod (6 : Int)) == (0 : Int)) (
  ∃ x9 : Sl, rd H9 (⟨H6.size, 0, none⟩ : Addr) = some (.slice x9.p x9.n x9.c) ∧ (
  ∃ x10 : Sl, rd H9 (⟨H6.size, 0, none⟩ : Addr) = some (.slice x10.p x10.n x10.c) ∧ (
  0 ≤ i ∧ i < (x10.n : Int) ∧ (unSome x10.p (fun a =>
  ∃ x11 : Int, rd H9 (a.add (i.toNat * 2)) = some (.int .i64 x11) ∧ (
  0 ≤ i ∧ i < (x9.n : Int) ∧ (unSome x9.p (fun a1 =>
  okRow H9 (a1.add (i.toNat * 2)) 1 ∧ (
  letH (wrs H9 (a1.add (i.toNat * 2)) [.int .i64 (IntKind.i64.wrap ((IntKind.i64.wrap (x11 + (IntKind.i64.wrap ((IntKind.u64.wrap v).tmod (5 : Int))))) - (2 : Int)))]) (fun H10 : Heap =>
  J_1 H10)))))))))) (
  iteB ((how.tmod (6 : Int)) == (1 : Int)) (
  ∃ x12 : Sl, rd H9 (⟨H6.size, 0, none⟩ : Addr) = some (.slice x12.p x12.n x12.c) ∧ (
  0 ≤ i ∧ i < (x12.n : Int) ∧ (unSome x12.p (fun a2 =>
  okRow H9 ((a2.add (i.toNat * 2)).add 1) 1 ∧ (
  letH (wrs H9 ((a2.add (i.toNat * 2)).add 1) [.int .i64 v]) (fun H11 : Heap =>
  J_1 H11)))))) (
  iteB ((how.tmod (6 : Int)) == (2 : Int)) (
  okRow H9 ((⟨H6.size, 0, none⟩ : Addr).add 2) 1 ∧ (
  letH (wrs H9 ((⟨H6.size, 0, none⟩ : Addr).add 2) [.int .i64 v]) (fun H12 : Heap =>
  J_1 H12))) (
  iteB ((how.tmod (6 : Int)) == (3 : Int)) (
  ∃ x13 : Sl, rd H9 ((⟨H6.size, 0, none⟩ : Addr).add 1) = some (.slice x13.p x13.n x13.c) ∧ (
  CallsP Try.prog n_help_Mod #[.int .i64 (IntKind.i64.wrap ((IntKind.u64.wrap v).tmod (8 : Int))), .int .i64 (7 : Int)] (fun v5 =>
  ∃ x14 : Int, v5 = .int .i64 x14 ∧ (
  letH (H9.push (.cells #[.int .i64 i, .int .i64 (IntKind.i64.wrap (x14 - (1 : Int))), .int .i64 (IntKind.i64.wrap ((IntKind.u64.wrap v).tmod (3 : Int)))] t_api_HeatLink (0, 0))) (fun H13 : Heap =>
  Ext H9 H13 ∧ (
  runH Try.prog (Builtin.append_ #[t_sl_api_HeatLink, t_sl_api_HeatLink] t_sl_api_HeatLink #[.slice x13.p x13.n x13.c, .slice (some (⟨H9.size, 0, none⟩ : Addr)) 1 1]) H13 (fun v6 H14 =>
  ∃ x15 : Sl, v6 = .slice x15.p x15.n x15.c ∧ (
  okRow H14 ((⟨H6.size, 0, none⟩ : Addr).add 1) 1 ∧ (
  letH (wrs H14 ((⟨H6.size, 0, none⟩ : Addr).add 1) [.slice x15.p x15.n x15.c]) (fun H15 : Heap =>
  J_1 H15)))))))))) (
  iteB ((how.tmod (6 : Int)) == (4 : Int)) (
  ∃ x16 : Sl, rd H9 (⟨H6.size, 0, none⟩ : Addr) = some (.slice x16.p x16.n x16.c) ∧ (
  0 ≤ i ∧ i < (x16.n : Int) ∧ (unSome x16.p (fun a3 =>
  okRow H9 (a3.add (i.toNat * 2)) 1 ∧ (
  letH (wrs H9 (a3.add (i.toNat * 2)) [.int .i64 v]) (fun H16 : Heap =>
  J_1 H16)))))) (
  J_1 H9)))))) ∧ (∀ H17 : Heap, J_1 H17 → F_law38_HeatNewAgrees_k2 R domains links ambient power H3 H6 H17)))))))))))))))

def F_law38_HeatNewAgrees (R : Value → Heap → Prop) (domains : Sl) (links : Sl) (ambient : Int) (power : Sl) (k : Int) (v : Int) (how : Int) (H : Heap) : Prop :=
  ∃ J_ : Bool → Heap → Prop, (
  iteB (decide ((domains.n : Int) > (20 : Int))) (
  J_ true H) (
  iteB (decide ((links.n : Int) > (20 : Int))) (
  J_ true H) (
  J_ (decide ((power.n : Int) > (20 : Int))) H))) ∧ (∀ x : Bool, ∀ H1 : Heap, J_ x H1 → F_law38_HeatNewAgrees_k3 R domains links ambient power k v how x H1)

theorem F_law38_HeatNewAgrees_eq (R : Value → Heap → Prop) (domains : Sl) (links : Sl) (ambient : Int) (power : Sl) (k : Int) (v : Int) (how : Int) (H : Heap) : wpF Try.prog Try.f8 [(45, .bool false), (127, .int .i64 0)] [(2, [45], [0, 1, 2, 3, 4, 5, 6]), (17, [], [0, 1, 2, 3, 15, 16])] [(18, [127], [3, 126])] [26] [.slice domains.p domains.n domains.c, .slice links.p links.n links.c, .int .i64 ambient, .slice power.p power.n power.c, .int .i64 k, .int .i64 v, .int .u8 how] H R = F_law38_HeatNewAgrees R domains links ambient power k v how H := by kernel_rfl

theorem F_law38_HeatNewAgrees_ok {R : Value → Heap → Prop} (domains : Sl) (links : Sl) (ambient : Int) (power : Sl) (k : Int) (v : Int) (how : Int) {H : Heap} (h : F_law38_HeatNewAgrees R domains links ambient power k v how H) : CallsH Try.prog n_law38_HeatNewAgrees #[.slice domains.p domains.n domains.c, .slice links.p links.n links.c, .int .i64 ambient, .slice power.p power.n power.c, .int .i64 k, .int .i64 v, .int .u8 how] H R :=
  wpF_sound Try.func8 (Eq.mpr (F_law38_HeatNewAgrees_eq R domains links ambient power k v how H) h)

/-! ### 9: platformfw/platformfwlaw38.HeatBoundHolds -/

def F_law38_HeatBoundHolds_r1 (R : Value → Heap → Prop) (H2 : Heap) (x4 : Sl) (x8 : Option Addr) (x13 : Int) (I_ : Int → Heap → Prop) (M_ : Int → Heap → Nat) (i : Int) (H8 : Heap) (x18 : Sl) (I_2 : Int → Heap → Prop) (M_2 : Int → Heap → Nat) (k2 : Int) (H13 : Heap) : Prop :=
  iteB (decide (k2 < (x4.n : Int))) (
  0 ≤ k2 ∧ k2 < (x18.n : Int) ∧ (unSome x18.p (fun a4 =>
  ∃ x20 : Int, rd H13 (a4.add (k2.toNat * 1)) = some (.int .i64 x20) ∧ (
  ∃ x21 : Int, rd H13 ((⟨H2.size, 0, none⟩ : Addr).add 2) = some (.int .i64 x21) ∧ (
  iteB (decide (x20 < x21)) (
  R (.bool false) H13) (
  0 ≤ k2 ∧ k2 < (x18.n : Int) ∧ (unSome x18.p (fun a5 =>
  ∃ x22 : Int, rd H13 (a5.add (k2.toNat * 1)) = some (.int .i64 x22) ∧ (
  iteB (decide (x22 > x13)) (
  R (.bool false) H13) (
  0 ≤ k2 ∧ k2 < (x18.n : Int) ∧ (unSome x18.p (fun a6 =>
  ∃ x23 : Int, rd H13 (a6.add (k2.toNat * 1)) = some (.int .i64 x23) ∧ (
  CallsH Try.prog n_heat_Model_Temperature #[.pointer x8, .int .i64 k2] H13 (fun v7 H14 =>
  ∃ x24 : Int, v7 = .int .i64 x24 ∧ (
  Ext H13 H14 ∧ (
  iteB (x24 != x23) (
  R (.bool false) H14) (
  letV (IntKind.i64.wrap (k2 + (1 : Int))) (fun k3 : Int =>
  I_2 k3 H14 ∧ M_2 k3 H14 < M_2 k2 H13)))))))))))))))))) (
  letV (IntKind.i64.wrap (i + (1 : Int))) (fun i1 : Int =>
  I_ i1 H13 ∧ M_ i1 H13 < M_ i H8))

def F_law38_HeatBoundHolds_r2 (R : Value → Heap → Prop) (H2 : Heap) (x4 : Sl) (x8 : Option Addr) (top : Sl) (x13 : Int) (I_ : Int → Heap → Prop) (M_ : Int → Heap → Nat) (i : Int) (H8 : Heap) (p : Sl) (I_1 : Int → Heap → Prop) (M_1 : Int → Heap → Nat) (k : Int) (H10 : Heap) : Prop :=
  iteB (decide (k < (x4.n : Int))) (
  0 ≤ k ∧ k < (p.n : Int) ∧ (unSome p.p (fun a1 =>
  ∃ x16 : Int, rd H10 (a1.add (k.toNat * 1)) = some (.int .i64 x16) ∧ (
  0 ≤ k ∧ k < (top.n : Int) ∧ (unSome top.p (fun a2 =>
  ∃ x17 : Int, rd H10 (a2.add (k.toNat * 1)) = some (.int .i64 x17) ∧ (
  0 ≤ k ∧ k < (p.n : Int) ∧ (unSome p.p (fun a3 =>
  okRow H10 (a3.add (k.toNat * 1)) 1 ∧ (
  letH (wrs H10 (a3.add (k.toNat * 1)) [.int .i64 (if x17 < x16 then x17 else x16)]) (fun H11 : Heap =>
  letV (IntKind.i64.wrap (k + (1 : Int))) (fun k1 : Int =>
  I_1 k1 H11 ∧ M_1 k1 H11 < M_1 k H10)))))))))))) (
  CallsH Try.prog n_heat_Model_Step #[.pointer x8, .slice p.p p.n p.c] H10 (fun v6 H12 =>
  ∃ x18 : Sl, ∃ x19 : Int, v6 = .tuple #[.slice x18.p x18.n x18.c, .int .i64 x19] ∧ (
  iteB (x19 != (0 : Int)) (
  R (.bool false) H12) (
  iteB ((x18.n : Int) != (x4.n : Int)) (
  R (.bool false) H12) (
  ∃ I_2 : Int → Heap → Prop, ∃ M_2 : Int → Heap → Nat, I_2 (0 : Int) H12 ∧ (∀ k2 : Int, ∀ H13 : Heap, I_2 k2 H13 → F_law38_HeatBoundHolds_r1 R H2 x4 x8 x13 I_ M_ i H8 x18 I_2 M_2 k2 H13))))))

def F_law38_HeatBoundHolds_r3 (R : Value → Heap → Prop) (power : Sl) (H2 : Heap) (x4 : Sl) (x8 : Option Addr) (top : Sl) (x13 : Int) (I_ : Int → Heap → Prop) (M_ : Int → Heap → Nat) (i : Int) (H8 : Heap) : Prop :=
  iteB (decide (i < (power.n : Int))) (
  0 ≤ i ∧ i < (power.n : Int) ∧ (unSome power.p (fun a =>
  ∃ x15 : Sl, rd H8 (a.add (i.toNat * 1)) = some (.slice x15.p x15.n x15.c) ∧ (
  CallsH Try.prog n_law38_Powers #[.slice x15.p x15.n x15.c, .int .i64 (x4.n : Int), .int .i64 (300 : Int)] H8 (fun v5 H9 =>
  ∃ p : Sl, v5 = .slice p.p p.n p.c ∧ (
  ∃ I_1 : Int → Heap → Prop, ∃ M_1 : Int → Heap → Nat, I_1 (0 : Int) H9 ∧ (∀ k : Int, ∀ H10 : Heap, I_1 k H10 → F_law38_HeatBoundHolds_r2 R H2 x4 x8 top x13 I_ M_ i H8 p I_1 M_1 k H10))))))) (
  CallsH Try.prog n_law38_awake #[] H8 (fun v8 H15 =>
  ∃ x25 : Bool, v8 = .bool x25 ∧ (
  R (.bool x25) H15)))

def F_law38_HeatBoundHolds (R : Value → Heap → Prop) (domains : Sl) (links : Sl) (ambient : Int) (most : Sl) (power : Sl) (H : Heap) : Prop :=
  iteB (decide ((power.n : Int) > (60 : Int))) (
  CallsH Try.prog n_law38_awake #[] H (fun v H1 =>
  ∃ x : Bool, v = .bool x ∧ (
  R (.bool x) H1))) (
  CallsH Try.prog n_law38_Some #[.slice domains.p domains.n domains.c, .slice links.p links.n links.c, .int .i64 ambient] H (fun v1 H2 =>
  ∃ x1 : Sl, ∃ x2 : Sl, ∃ x3 : Int, v1 = .agg #[.slice x1.p x1.n x1.c, .slice x2.p x2.n x2.c, .int .i64 x3] ∧ (
  letH (H2.push (.cells #[.slice none 0 0, .slice none 0 0, .int .i64 (0 : Int)] t_law38_System (0, 0))) (fun H3 : Heap =>
  okRow H3 (⟨H2.size, 0, none⟩ : Addr) 3 ∧ (
  letH (wrs H3 (⟨H2.size, 0, none⟩ : Addr) [.slice x1.p x1.n x1.c, .slice x2.p x2.n x2.c, .int .i64 x3]) (fun H4 : Heap =>
  ∃ x4 : Sl, rd H4 (⟨H2.size, 0, none⟩ : Addr) = some (.slice x4.p x4.n x4.c) ∧ (
  ∃ x5 : Sl, rd H4 (⟨H2.size, 0, none⟩ : Addr) = some (.slice x5.p x5.n x5.c) ∧ (
  ∃ x6 : Sl, rd H4 ((⟨H2.size, 0, none⟩ : Addr).add 1) = some (.slice x6.p x6.n x6.c) ∧ (
  ∃ x7 : Int, rd H4 ((⟨H2.size, 0, none⟩ : Addr).add 2) = some (.int .i64 x7) ∧ (
  CallsH Try.prog n_heat_New #[.slice x5.p x5.n x5.c, .slice x6.p x6.n x6.c, .int .i64 x7] H4 (fun v2 H5 =>
  ∃ x8 : Option Addr, ∃ x9 : Int, v2 = .tuple #[.pointer x8, .int .i64 x9] ∧ (
  CallsH Try.prog n_law38_Powers #[.slice most.p most.n most.c, .int .i64 (x4.n : Int), .int .i64 (300 : Int)] H5 (fun v3 H6 =>
  ∃ top : Sl, v3 = .slice top.p top.n top.c ∧ (
  ∃ x10 : Sl, rd H6 (⟨H2.size, 0, none⟩ : Addr) = some (.slice x10.p x10.n x10.c) ∧ (
  ∃ x11 : Sl, rd H6 ((⟨H2.size, 0, none⟩ : Addr).add 1) = some (.slice x11.p x11.n x11.c) ∧ (
  ∃ x12 : Int, rd H6 ((⟨H2.size, 0, none⟩ : Addr).add 2) = some (.int .i64 x12) ∧ (
  CallsH Try.prog n_heat_Bound #[.slice x10.p x10.n x10.c, .slice x11.p x11.n x11.c, .int .i64 x12, .slice top.p top.n top.c] H6 (fun v4 H7 =>
  ∃ x13 : Int, ∃ x14 : Int, v4 = .tuple #[.int .i64 x13, .int .i64 x14] ∧ (
  iteB (x9 != (0 : Int)) (
  R (.bool false) H7) (
  iteB (x14 != (0 : Int)) (
  R (.bool false) H7) (
  iteB x8.isNone (
  R (.bool false) H7) (
  ∃ I_ : Int → Heap → Prop, ∃ M_ : Int → Heap → Nat, I_ (0 : Int) H7 ∧ (∀ i : Int, ∀ H8 : Heap, I_ i H8 → F_law38_HeatBoundHolds_r3 R power H2 x4 x8 top x13 I_ M_ i H8)))))))))))))))))))))))

theorem F_law38_HeatBoundHolds_eq (R : Value → Heap → Prop) (domains : Sl) (links : Sl) (ambient : Int) (most : Sl) (power : Sl) (H : Heap) : wpF Try.prog Try.f9 [(18, .int .i64 0), (20, .int .i64 0), (23, .int .i64 0)] [] [(11, [18], [4, 11, 12, 13, 15, 16]), (15, [20], [4, 11, 12, 13, 15, 16, 18, 19]), (22, [23], [4, 11, 12, 13, 15, 16, 18, 21])] [26] [.slice domains.p domains.n domains.c, .slice links.p links.n links.c, .int .i64 ambient, .slice most.p most.n most.c, .slice power.p power.n power.c] H R = F_law38_HeatBoundHolds R domains links ambient most power H := by kernel_rfl

theorem F_law38_HeatBoundHolds_ok {R : Value → Heap → Prop} (domains : Sl) (links : Sl) (ambient : Int) (most : Sl) (power : Sl) {H : Heap} (h : F_law38_HeatBoundHolds R domains links ambient most power H) : CallsH Try.prog n_law38_HeatBoundHolds #[.slice domains.p domains.n domains.c, .slice links.p links.n links.c, .int .i64 ambient, .slice most.p most.n most.c, .slice power.p power.n power.c] H R :=
  wpF_sound Try.func9 (Eq.mpr (F_law38_HeatBoundHolds_eq R domains links ambient most power H) h)

/-! ### 10: platformfw/platformfwlaw38.HeatShift -/

def F_law38_HeatShift_r1 (R : Value → Heap → Prop) (H2 : Heap) (x4 : Sl) (up : Int) (x8 : Option Addr) (x13 : Option Addr) (I_ : Int → Heap → Prop) (M_ : Int → Heap → Nat) (i : Int) (H7 : Heap) (x16 : Sl) (x18 : Sl) (I_1 : Int → Heap → Prop) (M_1 : Int → Heap → Nat) (k : Int) (H15 : Heap) : Prop :=
  iteB (decide (k < (x4.n : Int))) (
  0 ≤ k ∧ k < (x18.n : Int) ∧ (unSome x18.p (fun a1 =>
  ∃ x32 : Int, rd H15 (a1.add (k.toNat * 1)) = some (.int .i64 x32) ∧ (
  0 ≤ k ∧ k < (x16.n : Int) ∧ (unSome x16.p (fun a2 =>
  ∃ x33 : Int, rd H15 (a2.add (k.toNat * 1)) = some (.int .i64 x33) ∧ (
  iteB (x32 != (IntKind.i64.wrap (x33 + up))) (
  R (.bool false) H15) (
  ∃ x34 : Sl, rd H15 (⟨H2.size, 0, none⟩ : Addr) = some (.slice x34.p x34.n x34.c) ∧ (
  0 ≤ k ∧ k < (x34.n : Int) ∧ (unSome x34.p (fun a3 =>
  ∃ x35 : Int, rd H15 (a3.add (k.toNat * 2)) = some (.int .i64 x35) ∧ (
  CallsH Try.prog n_heat_Model_Energy #[.pointer x13, .int .i64 k] H15 (fun v11 H16 =>
  ∃ x36 : Int, v11 = .int .i64 x36 ∧ (
  Ext H15 H16 ∧ (
  CallsH Try.prog n_heat_Model_Energy #[.pointer x8, .int .i64 k] H16 (fun v12 H17 =>
  ∃ x37 : Int, v12 = .int .i64 x37 ∧ (
  Ext H16 H17 ∧ (
  iteB (x36 != (IntKind.i64.wrap (x37 + (IntKind.i64.wrap (x35 * up))))) (
  R (.bool false) H17) (
  letV (IntKind.i64.wrap (k + (1 : Int))) (fun k1 : Int =>
  I_1 k1 H17 ∧ M_1 k1 H17 < M_1 k H15)))))))))))))))))))) (
  letV (IntKind.i64.wrap (i + (1 : Int))) (fun i1 : Int =>
  I_ i1 H15 ∧ M_ i1 H15 < M_ i H7))

def F_law38_HeatShift_r2 (R : Value → Heap → Prop) (power : Sl) (H2 : Heap) (x4 : Sl) (up : Int) (x8 : Option Addr) (x13 : Option Addr) (I_ : Int → Heap → Prop) (M_ : Int → Heap → Nat) (i : Int) (H7 : Heap) : Prop :=
  iteB (decide (i < (power.n : Int))) (
  0 ≤ i ∧ i < (power.n : Int) ∧ (unSome power.p (fun a =>
  ∃ x15 : Sl, rd H7 (a.add (i.toNat * 1)) = some (.slice x15.p x15.n x15.c) ∧ (
  CallsH Try.prog n_law38_Powers #[.slice x15.p x15.n x15.c, .int .i64 (x4.n : Int), .int .i64 (200 : Int)] H7 (fun v4 H8 =>
  ∃ p : Sl, v4 = .slice p.p p.n p.c ∧ (
  CallsH Try.prog n_heat_Model_Step #[.pointer x8, .slice p.p p.n p.c] H8 (fun v5 H9 =>
  ∃ x16 : Sl, ∃ x17 : Int, v5 = .tuple #[.slice x16.p x16.n x16.c, .int .i64 x17] ∧ (
  CallsH Try.prog n_heat_Model_Step #[.pointer x13, .slice p.p p.n p.c] H9 (fun v6 H10 =>
  ∃ x18 : Sl, ∃ x19 : Int, v6 = .tuple #[.slice x18.p x18.n x18.c, .int .i64 x19] ∧ (
  ∃ x20 : Sl, rd H10 (⟨H2.size, 0, none⟩ : Addr) = some (.slice x20.p x20.n x20.c) ∧ (
  ∃ x21 : Sl, rd H10 ((⟨H2.size, 0, none⟩ : Addr).add 1) = some (.slice x21.p x21.n x21.c) ∧ (
  ∃ x22 : Int, rd H10 ((⟨H2.size, 0, none⟩ : Addr).add 2) = some (.int .i64 x22) ∧ (
  CallsH Try.prog n_heat_Bound #[.slice x20.p x20.n x20.c, .slice x21.p x21.n x21.c, .int .i64 x22, .slice p.p p.n p.c] H10 (fun v7 H11 =>
  ∃ x23 : Int, ∃ x24 : Int, v7 = .tuple #[.int .i64 x23, .int .i64 x24] ∧ (
  ∃ x25 : Sl, rd H11 (⟨H2.size, 0, none⟩ : Addr) = some (.slice x25.p x25.n x25.c) ∧ (
  ∃ x26 : Sl, rd H11 ((⟨H2.size, 0, none⟩ : Addr).add 1) = some (.slice x26.p x26.n x26.c) ∧ (
  ∃ x27 : Int, rd H11 ((⟨H2.size, 0, none⟩ : Addr).add 2) = some (.int .i64 x27) ∧ (
  CallsH Try.prog n_heat_Bound #[.slice x25.p x25.n x25.c, .slice x26.p x26.n x26.c, .int .i64 (IntKind.i64.wrap (x27 + up)), .slice p.p p.n p.c] H11 (fun v8 H12 =>
  ∃ x28 : Int, ∃ x29 : Int, v8 = .tuple #[.int .i64 x28, .int .i64 x29] ∧ (
  iteB (x17 != (0 : Int)) (
  R (.bool false) H12) (
  iteB (x19 != (0 : Int)) (
  R (.bool false) H12) (
  iteB (x24 != (0 : Int)) (
  R (.bool false) H12) (
  iteB (x29 != (0 : Int)) (
  R (.bool false) H12) (
  iteB ((x16.n : Int) != (x4.n : Int)) (
  R (.bool false) H12) (
  iteB ((x18.n : Int) != (x4.n : Int)) (
  R (.bool false) H12) (
  iteB (x28 != (IntKind.i64.wrap (x23 + up))) (
  R (.bool false) H12) (
  CallsH Try.prog n_heat_Model_Released #[.pointer x8] H12 (fun v9 H13 =>
  ∃ x30 : Int, v9 = .int .i64 x30 ∧ (
  CallsH Try.prog n_heat_Model_Released #[.pointer x13] H13 (fun v10 H14 =>
  ∃ x31 : Int, v10 = .int .i64 x31 ∧ (
  iteB (x30 != x31) (
  R (.bool false) H14) (
  ∃ I_1 : Int → Heap → Prop, ∃ M_1 : Int → Heap → Nat, I_1 (0 : Int) H14 ∧ (∀ k : Int, ∀ H15 : Heap, I_1 k H15 → F_law38_HeatShift_r1 R H2 x4 up x8 x13 I_ M_ i H7 x16 x18 I_1 M_1 k H15))))))))))))))))))))))))))))))))) (
  CallsH Try.prog n_law38_awake #[] H7 (fun v13 H18 =>
  ∃ x38 : Bool, v13 = .bool x38 ∧ (
  R (.bool x38) H18)))

def F_law38_HeatShift (R : Value → Heap → Prop) (domains : Sl) (links : Sl) (ambient : Int) (power : Sl) (degrees : Int) (H : Heap) : Prop :=
  iteB (decide ((power.n : Int) > (30 : Int))) (
  CallsH Try.prog n_law38_awake #[] H (fun v H1 =>
  ∃ x : Bool, v = .bool x ∧ (
  R (.bool x) H1))) (
  CallsH Try.prog n_law38_Some #[.slice domains.p domains.n domains.c, .slice links.p links.n links.c, .int .i64 ambient] H (fun v1 H2 =>
  ∃ x1 : Sl, ∃ x2 : Sl, ∃ x3 : Int, v1 = .agg #[.slice x1.p x1.n x1.c, .slice x2.p x2.n x2.c, .int .i64 x3] ∧ (
  letH (H2.push (.cells #[.slice none 0 0, .slice none 0 0, .int .i64 (0 : Int)] t_law38_System (0, 0))) (fun H3 : Heap =>
  okRow H3 (⟨H2.size, 0, none⟩ : Addr) 3 ∧ (
  letH (wrs H3 (⟨H2.size, 0, none⟩ : Addr) [.slice x1.p x1.n x1.c, .slice x2.p x2.n x2.c, .int .i64 x3]) (fun H4 : Heap =>
  ∃ x4 : Sl, rd H4 (⟨H2.size, 0, none⟩ : Addr) = some (.slice x4.p x4.n x4.c) ∧ (
  letV (IntKind.i64.wrap degrees) (fun up : Int =>
  ∃ x5 : Sl, rd H4 (⟨H2.size, 0, none⟩ : Addr) = some (.slice x5.p x5.n x5.c) ∧ (
  ∃ x6 : Sl, rd H4 ((⟨H2.size, 0, none⟩ : Addr).add 1) = some (.slice x6.p x6.n x6.c) ∧ (
  ∃ x7 : Int, rd H4 ((⟨H2.size, 0, none⟩ : Addr).add 2) = some (.int .i64 x7) ∧ (
  CallsH Try.prog n_heat_New #[.slice x5.p x5.n x5.c, .slice x6.p x6.n x6.c, .int .i64 x7] H4 (fun v2 H5 =>
  ∃ x8 : Option Addr, ∃ x9 : Int, v2 = .tuple #[.pointer x8, .int .i64 x9] ∧ (
  ∃ x10 : Sl, rd H5 (⟨H2.size, 0, none⟩ : Addr) = some (.slice x10.p x10.n x10.c) ∧ (
  ∃ x11 : Sl, rd H5 ((⟨H2.size, 0, none⟩ : Addr).add 1) = some (.slice x11.p x11.n x11.c) ∧ (
  ∃ x12 : Int, rd H5 ((⟨H2.size, 0, none⟩ : Addr).add 2) = some (.int .i64 x12) ∧ (
  CallsH Try.prog n_heat_New #[.slice x10.p x10.n x10.c, .slice x11.p x11.n x11.c, .int .i64 (IntKind.i64.wrap (x12 + up))] H5 (fun v3 H6 =>
  ∃ x13 : Option Addr, ∃ x14 : Int, v3 = .tuple #[.pointer x13, .int .i64 x14] ∧ (
  iteB (x9 != (0 : Int)) (
  R (.bool false) H6) (
  iteB (x14 != (0 : Int)) (
  R (.bool false) H6) (
  iteB x8.isNone (
  R (.bool false) H6) (
  iteB x13.isNone (
  R (.bool false) H6) (
  ∃ I_ : Int → Heap → Prop, ∃ M_ : Int → Heap → Nat, I_ (0 : Int) H6 ∧ (∀ i : Int, ∀ H7 : Heap, I_ i H7 → F_law38_HeatShift_r2 R power H2 x4 up x8 x13 I_ M_ i H7)))))))))))))))))))))))

theorem F_law38_HeatShift_eq (R : Value → Heap → Prop) (domains : Sl) (links : Sl) (ambient : Int) (power : Sl) (degrees : Int) (H : Heap) : wpF Try.prog Try.f10 [(18, .int .i64 0), (28, .int .i64 0)] [] [(11, [18], [3, 11, 12, 13, 14, 16]), (21, [28], [3, 11, 12, 13, 14, 16, 18, 20, 22])] [26] [.slice domains.p domains.n domains.c, .slice links.p links.n links.c, .int .i64 ambient, .slice power.p power.n power.c, .int .u16 degrees] H R = F_law38_HeatShift R domains links ambient power degrees H := by kernel_rfl

theorem F_law38_HeatShift_ok {R : Value → Heap → Prop} (domains : Sl) (links : Sl) (ambient : Int) (power : Sl) (degrees : Int) {H : Heap} (h : F_law38_HeatShift R domains links ambient power degrees H) : CallsH Try.prog n_law38_HeatShift #[.slice domains.p domains.n domains.c, .slice links.p links.n links.c, .int .i64 ambient, .slice power.p power.n power.c, .int .u16 degrees] H R :=
  wpF_sound Try.func10 (Eq.mpr (F_law38_HeatShift_eq R domains links ambient power degrees H) h)

/-! ### 11: platformfw/platformfwlaw38.awake -/

def F_law38_awake (R : Value → Heap → Prop)  (H : Heap) : Prop :=
  letH (H.push (.cells #[.int .i64 (10 : Int), .int .i64 (1 : Int)] t_api_HeatDomain (0, 0))) (fun H1 : Heap =>
  CallsH Try.prog n_heat_New #[.slice (some (⟨H.size, 0, none⟩ : Addr)) 1 1, .slice none 0 0, .int .i64 (20 : Int)] H1 (fun v H2 =>
  ∃ x : Option Addr, ∃ x1 : Int, v = .tuple #[.pointer x, .int .i64 x1] ∧ (
  iteB (x1 != (0 : Int)) (
  R (.bool false) H2) (
  iteB x.isNone (
  R (.bool false) H2) (
  CallsH Try.prog n_heat_Model_Energy #[.pointer x, .int .i64 (0 : Int)] H2 (fun v1 H3 =>
  ∃ x2 : Int, v1 = .int .i64 x2 ∧ (
  iteB (x2 != (200 : Int)) (
  R (.bool false) H3) (
  letH (H3.push (.cells #[.int .i64 (15 : Int)] t_int64 (0, 0))) (fun H4 : Heap =>
  CallsH Try.prog n_heat_Model_Step #[.pointer x, .slice (some (⟨H3.size, 0, none⟩ : Addr)) 1 1] H4 (fun v2 H5 =>
  ∃ x3 : Sl, ∃ x4 : Int, v2 = .tuple #[.slice x3.p x3.n x3.c, .int .i64 x4] ∧ (
  letH (H5.push (.cells #[.int .i64 (15 : Int)] t_int64 (0, 0))) (fun H6 : Heap =>
  CallsH Try.prog n_heat_Model_Step #[.pointer x, .slice (some (⟨H5.size, 0, none⟩ : Addr)) 1 1] H6 (fun v3 H7 =>
  ∃ x5 : Sl, ∃ x6 : Int, v3 = .tuple #[.slice x5.p x5.n x5.c, .int .i64 x6] ∧ (
  iteB (x4 == (0 : Int)) (
  iteB (x6 == (0 : Int)) (
  iteB ((x3.n : Int) == (1 : Int)) (
  iteB ((x5.n : Int) == (1 : Int)) (
  0 ≤ (0 : Int) ∧ (0 : Int) < (x3.n : Int) ∧ (unSome x3.p (fun a =>
  ∃ x7 : Int, rd H7 (a.add ((0 : Int).toNat * 1)) = some (.int .i64 x7) ∧ (
  iteB (x7 == (21 : Int)) (
  0 ≤ (0 : Int) ∧ (0 : Int) < (x5.n : Int) ∧ (unSome x5.p (fun a1 =>
  ∃ x8 : Int, rd H7 (a1.add ((0 : Int).toNat * 1)) = some (.int .i64 x8) ∧ (
  iteB (x8 == (22 : Int)) (
  CallsH Try.prog n_heat_Model_Energy #[.pointer x, .int .i64 (0 : Int)] H7 (fun v4 H8 =>
  ∃ x9 : Int, v4 = .int .i64 x9 ∧ (
  iteB (x9 == (229 : Int)) (
  CallsH Try.prog n_heat_Model_Released #[.pointer x] H8 (fun v5 H9 =>
  ∃ x10 : Int, v5 = .int .i64 x10 ∧ (
  R (.bool (x10 == (1 : Int))) H9))) (
  R (.bool false) H8)))) (
  R (.bool false) H7))))) (
  R (.bool false) H7))))) (
  R (.bool false) H7)) (
  R (.bool false) H7)) (
  R (.bool false) H7)) (
  R (.bool false) H7)))))))))))))))

theorem F_law38_awake_eq (R : Value → Heap → Prop)  (H : Heap) : wpF Try.prog Try.f11 [] [] [] [26] [] H R = F_law38_awake R  H := by kernel_rfl

theorem F_law38_awake_ok {R : Value → Heap → Prop}  {H : Heap} (h : F_law38_awake R  H) : CallsH Try.prog n_law38_awake #[] H R :=
  wpF_sound Try.func11 (Eq.mpr (F_law38_awake_eq R  H) h)

/-! ### 12: platformfw/platformfwlaw38.Some -/

def F_law38_Some_r1 (H2 : Heap) (I_1 : Int → Heap → Prop) (M_1 : Int → Heap → Nat) (i3 : Int) (H9 : Heap) (I_2 : Bool → Int → Heap → Prop) (M_2 : Bool → Int → Heap → Nat) (ok : Bool) (k : Int) (H12 : Heap) : Prop :=
  ∃ x14 : Sl, rd H12 ((⟨H2.size, 0, none⟩ : Addr).add 1) = some (.slice x14.p x14.n x14.c) ∧ (
  iteB (decide (k < (x14.n : Int))) (
  ∃ x15 : Sl, rd H12 ((⟨H2.size, 0, none⟩ : Addr).add 1) = some (.slice x15.p x15.n x15.c) ∧ (
  0 ≤ k ∧ k < (x15.n : Int) ∧ (unSome x15.p (fun a9 =>
  ∃ x16 : Int, rd H12 (a9.add (k.toNat * 3)) = some (.int .i64 x16) ∧ ∃ x17 : Int, rd H12 ((a9.add (k.toNat * 3)).add 1) = some (.int .i64 x17) ∧ ∃ x18 : Int, rd H12 ((a9.add (k.toNat * 3)).add 2) = some (.int .i64 x18) ∧ (
  letH (H12.push (.cells #[.int .i64 (0 : Int), .int .i64 (0 : Int), .int .i64 (0 : Int)] t_api_HeatLink (0, 0))) (fun H13 : Heap =>
  okRow H13 (⟨H12.size, 0, none⟩ : Addr) 3 ∧ (
  letH (wrs H13 (⟨H12.size, 0, none⟩ : Addr) [.int .i64 x16, .int .i64 x17, .int .i64 x18]) (fun H14 : Heap =>
  iteB ok (
  ∃ x19 : Int, rd H14 (⟨H12.size, 0, none⟩ : Addr) = some (.int .i64 x19) ∧ (
  ∃ x20 : Int, rd H14 (⟨H9.size, 0, none⟩ : Addr) = some (.int .i64 x20) ∧ (
  iteB (x19 == x20) (
  ∃ x21 : Int, rd H14 ((⟨H12.size, 0, none⟩ : Addr).add 1) = some (.int .i64 x21) ∧ (
  ∃ x22 : Int, rd H14 ((⟨H9.size, 0, none⟩ : Addr).add 1) = some (.int .i64 x22) ∧ (
  iteB (x21 == x22) (
  letV (IntKind.i64.wrap (k + (1 : Int))) (fun k1 : Int =>
  I_2 false k1 H14 ∧ M_2 false k1 H14 < M_2 ok k H12)) (
  ∃ x23 : Int, rd H14 (⟨H12.size, 0, none⟩ : Addr) = some (.int .i64 x23) ∧ (
  ∃ x24 : Int, rd H14 ((⟨H9.size, 0, none⟩ : Addr).add 1) = some (.int .i64 x24) ∧ (
  iteB (x23 == x24) (
  ∃ x25 : Int, rd H14 ((⟨H12.size, 0, none⟩ : Addr).add 1) = some (.int .i64 x25) ∧ (
  ∃ x26 : Int, rd H14 (⟨H9.size, 0, none⟩ : Addr) = some (.int .i64 x26) ∧ (
  letV (IntKind.i64.wrap (k + (1 : Int))) (fun k2 : Int =>
  I_2 (!(x25 == x26)) k2 H14 ∧ M_2 (!(x25 == x26)) k2 H14 < M_2 ok k H12)))) (
  letV (IntKind.i64.wrap (k + (1 : Int))) (fun k3 : Int =>
  I_2 true k3 H14 ∧ M_2 true k3 H14 < M_2 ok k H12)))))))) (
  ∃ x27 : Int, rd H14 (⟨H12.size, 0, none⟩ : Addr) = some (.int .i64 x27) ∧ (
  ∃ x28 : Int, rd H14 ((⟨H9.size, 0, none⟩ : Addr).add 1) = some (.int .i64 x28) ∧ (
  iteB (x27 == x28) (
  ∃ x29 : Int, rd H14 ((⟨H12.size, 0, none⟩ : Addr).add 1) = some (.int .i64 x29) ∧ (
  ∃ x30 : Int, rd H14 (⟨H9.size, 0, none⟩ : Addr) = some (.int .i64 x30) ∧ (
  letV (IntKind.i64.wrap (k + (1 : Int))) (fun k4 : Int =>
  I_2 (!(x29 == x30)) k4 H14 ∧ M_2 (!(x29 == x30)) k4 H14 < M_2 ok k H12)))) (
  letV (IntKind.i64.wrap (k + (1 : Int))) (fun k5 : Int =>
  I_2 true k5 H14 ∧ M_2 true k5 H14 < M_2 ok k H12)))))))) (
  letV (IntKind.i64.wrap (k + (1 : Int))) (fun k6 : Int =>
  I_2 false k6 H14 ∧ M_2 false k6 H14 < M_2 ok k H12)))))))))) (
  iteB ok (
  ∃ x31 : Sl, rd H12 ((⟨H2.size, 0, none⟩ : Addr).add 1) = some (.slice x31.p x31.n x31.c) ∧ (
  ∃ x32 : Int, rd H12 (⟨H9.size, 0, none⟩ : Addr) = some (.int .i64 x32) ∧ ∃ x33 : Int, rd H12 ((⟨H9.size, 0, none⟩ : Addr).add 1) = some (.int .i64 x33) ∧ ∃ x34 : Int, rd H12 ((⟨H9.size, 0, none⟩ : Addr).add 2) = some (.int .i64 x34) ∧ (
  letH (H12.push (.cells #[.int .i64 x32, .int .i64 x33, .int .i64 x34] t_api_HeatLink (0, 0))) (fun H15 : Heap =>
  runH Try.prog (Builtin.append_ #[t_sl_api_HeatLink, t_sl_api_HeatLink] t_sl_api_HeatLink #[.slice x31.p x31.n x31.c, .slice (some (⟨H12.size, 0, none⟩ : Addr)) 1 1]) H15 (fun v2 H16 =>
  ∃ x35 : Sl, v2 = .slice x35.p x35.n x35.c ∧ (
  okRow H16 ((⟨H2.size, 0, none⟩ : Addr).add 1) 1 ∧ (
  letH (wrs H16 ((⟨H2.size, 0, none⟩ : Addr).add 1) [.slice x35.p x35.n x35.c]) (fun H17 : Heap =>
  ∃ x36 : Sl, rd H17 (⟨H2.size, 0, none⟩ : Addr) = some (.slice x36.p x36.n x36.c) ∧ (
  ∃ x37 : Int, rd H17 (⟨H9.size, 0, none⟩ : Addr) = some (.int .i64 x37) ∧ (
  ∃ x38 : Sl, rd H17 (⟨H2.size, 0, none⟩ : Addr) = some (.slice x38.p x38.n x38.c) ∧ (
  ∃ x39 : Int, rd H17 (⟨H9.size, 0, none⟩ : Addr) = some (.int .i64 x39) ∧ (
  0 ≤ x39 ∧ x39 < (x38.n : Int) ∧ (unSome x38.p (fun a10 =>
  ∃ x40 : Int, rd H17 (a10.add (x39.toNat * 2)) = some (.int .i64 x40) ∧ (
  ∃ x41 : Int, rd H17 ((⟨H9.size, 0, none⟩ : Addr).add 2) = some (.int .i64 x41) ∧ (
  0 ≤ x37 ∧ x37 < (x36.n : Int) ∧ (unSome x36.p (fun a11 =>
  okRow H17 (a11.add (x37.toNat * 2)) 1 ∧ (
  letH (wrs H17 (a11.add (x37.toNat * 2)) [.int .i64 (IntKind.i64.wrap (x40 + x41))]) (fun H18 : Heap =>
  ∃ x42 : Sl, rd H18 (⟨H2.size, 0, none⟩ : Addr) = some (.slice x42.p x42.n x42.c) ∧ (
  ∃ x43 : Int, rd H18 ((⟨H9.size, 0, none⟩ : Addr).add 1) = some (.int .i64 x43) ∧ (
  ∃ x44 : Sl, rd H18 (⟨H2.size, 0, none⟩ : Addr) = some (.slice x44.p x44.n x44.c) ∧ (
  ∃ x45 : Int, rd H18 ((⟨H9.size, 0, none⟩ : Addr).add 1) = some (.int .i64 x45) ∧ (
  0 ≤ x45 ∧ x45 < (x44.n : Int) ∧ (unSome x44.p (fun a12 =>
  ∃ x46 : Int, rd H18 (a12.add (x45.toNat * 2)) = some (.int .i64 x46) ∧ (
  ∃ x47 : Int, rd H18 ((⟨H9.size, 0, none⟩ : Addr).add 2) = some (.int .i64 x47) ∧ (
  0 ≤ x43 ∧ x43 < (x42.n : Int) ∧ (unSome x42.p (fun a13 =>
  okRow H18 (a13.add (x43.toNat * 2)) 1 ∧ (
  letH (wrs H18 (a13.add (x43.toNat * 2)) [.int .i64 (IntKind.i64.wrap (x46 + x47))]) (fun H19 : Heap =>
  letV (IntKind.i64.wrap (i3 + (1 : Int))) (fun i4 : Int =>
  I_1 i4 H19 ∧ M_1 i4 H19 < M_1 i3 H9))))))))))))))))))))))))))))))))) (
  letV (IntKind.i64.wrap (i3 + (1 : Int))) (fun i5 : Int =>
  I_1 i5 H12 ∧ M_1 i5 H12 < M_1 i3 H9))))

def F_law38_Some_r2 (R : Value → Heap → Prop) (H : Heap) (links : Sl) (n : Int) (H2 : Heap) (I_1 : Int → Heap → Prop) (M_1 : Int → Heap → Nat) (i3 : Int) (H9 : Heap) : Prop :=
  iteB (decide (i3 < (links.n : Int))) (
  iteB (decide (i3 < (12 : Int))) (
  0 ≤ i3 ∧ i3 < (links.n : Int) ∧ (unSome links.p (fun a6 =>
  ∃ x7 : Int, rd H9 (a6.add (i3.toNat * 3)) = some (.int .i64 x7) ∧ (
  CallsP Try.prog n_help_Mod #[.int .i64 x7, .int .i64 n] (fun v =>
  ∃ x8 : Int, v = .int .i64 x8 ∧ (
  0 ≤ i3 ∧ i3 < (links.n : Int) ∧ (unSome links.p (fun a7 =>
  ∃ x9 : Int, rd H9 ((a7.add (i3.toNat * 3)).add 1) = some (.int .i64 x9) ∧ (
  CallsP Try.prog n_help_Mod #[.int .i64 x9, .int .i64 n] (fun v1 =>
  ∃ x10 : Int, v1 = .int .i64 x10 ∧ (
  0 ≤ i3 ∧ i3 < (links.n : Int) ∧ (unSome links.p (fun a8 =>
  ∃ x11 : Int, rd H9 ((a8.add (i3.toNat * 3)).add 2) = some (.int .i64 x11) ∧ (
  letH (H9.push (.cells #[.int .i64 (0 : Int), .int .i64 (0 : Int), .int .i64 (0 : Int)] t_api_HeatLink (0, 0))) (fun H10 : Heap =>
  Ext H9 H10 ∧ (
  okRow H10 (⟨H9.size, 0, none⟩ : Addr) 3 ∧ (
  letH (wrs H10 (⟨H9.size, 0, none⟩ : Addr) [.int .i64 x8, .int .i64 x10, .int .i64 (IntKind.i64.wrap ((1 : Int) + (IntKind.i64.wrap ((IntKind.u64.wrap x11).tmod (5 : Int)))))]) (fun H11 : Heap =>
  ∃ x12 : Int, rd H11 (⟨H9.size, 0, none⟩ : Addr) = some (.int .i64 x12) ∧ (
  ∃ x13 : Int, rd H11 ((⟨H9.size, 0, none⟩ : Addr).add 1) = some (.int .i64 x13) ∧ (
  ∃ I_2 : Bool → Int → Heap → Prop, ∃ M_2 : Bool → Int → Heap → Nat, I_2 (x12 != x13) (0 : Int) H11 ∧ (∀ ok : Bool, ∀ k : Int, ∀ H12 : Heap, I_2 ok k H12 → F_law38_Some_r1 H2 I_1 M_1 i3 H9 I_2 M_2 ok k H12))))))))))))))))))))) (
  ∃ x48 : Sl, rd H9 (⟨H2.size, 0, none⟩ : Addr) = some (.slice x48.p x48.n x48.c) ∧ ∃ x49 : Sl, rd H9 ((⟨H2.size, 0, none⟩ : Addr).add 1) = some (.slice x49.p x49.n x49.c) ∧ ∃ x50 : Int, rd H9 ((⟨H2.size, 0, none⟩ : Addr).add 2) = some (.int .i64 x50) ∧ (
  okRow H9 (⟨H.size, 0, none⟩ : Addr) 3 ∧ (
  letH (wrs H9 (⟨H.size, 0, none⟩ : Addr) [.slice x48.p x48.n x48.c, .slice x49.p x49.n x49.c, .int .i64 x50]) (fun H20 : Heap =>
  ∃ r : Sl, rd H20 (⟨H.size, 0, none⟩ : Addr) = some (.slice r.p r.n r.c) ∧ ∃ r1 : Sl, rd H20 ((⟨H.size, 0, none⟩ : Addr).add 1) = some (.slice r1.p r1.n r1.c) ∧ ∃ r2 : Int, rd H20 ((⟨H.size, 0, none⟩ : Addr).add 2) = some (.int .i64 r2) ∧ (
  R (.agg #[.slice r.p r.n r.c, .slice r1.p r1.n r1.c, .int .i64 r2]) H20)))))) (
  ∃ x51 : Sl, rd H9 (⟨H2.size, 0, none⟩ : Addr) = some (.slice x51.p x51.n x51.c) ∧ ∃ x52 : Sl, rd H9 ((⟨H2.size, 0, none⟩ : Addr).add 1) = some (.slice x52.p x52.n x52.c) ∧ ∃ x53 : Int, rd H9 ((⟨H2.size, 0, none⟩ : Addr).add 2) = some (.int .i64 x53) ∧ (
  okRow H9 (⟨H.size, 0, none⟩ : Addr) 3 ∧ (
  letH (wrs H9 (⟨H.size, 0, none⟩ : Addr) [.slice x51.p x51.n x51.c, .slice x52.p x52.n x52.c, .int .i64 x53]) (fun H21 : Heap =>
  ∃ r3 : Sl, rd H21 (⟨H.size, 0, none⟩ : Addr) = some (.slice r3.p r3.n r3.c) ∧ ∃ r4 : Sl, rd H21 ((⟨H.size, 0, none⟩ : Addr).add 1) = some (.slice r4.p r4.n r4.c) ∧ ∃ r5 : Int, rd H21 ((⟨H.size, 0, none⟩ : Addr).add 2) = some (.int .i64 r5) ∧ (
  R (.agg #[.slice r3.p r3.n r3.c, .slice r4.p r4.n r4.c, .int .i64 r5]) H21)))))

def F_law38_Some_r3 (R : Value → Heap → Prop) (H : Heap) (domains : Sl) (links : Sl) (n : Int) (H2 : Heap) (I_ : Int → Heap → Prop) (M_ : Int → Heap → Nat) (i : Int) (H5 : Heap) : Prop :=
  iteB (decide (i < n)) (
  ∃ x : Sl, rd H5 (⟨H2.size, 0, none⟩ : Addr) = some (.slice x.p x.n x.c) ∧ (
  0 ≤ i ∧ i < (x.n : Int) ∧ (unSome x.p (fun a =>
  okRow H5 (a.add (i.toNat * 2)) 2 ∧ (
  letH (wrs H5 (a.add (i.toNat * 2)) [.int .i64 (1 : Int), .int .i64 (1 : Int)]) (fun H6 : Heap =>
  iteB (decide (i < (domains.n : Int))) (
  ∃ x1 : Sl, rd H6 (⟨H2.size, 0, none⟩ : Addr) = some (.slice x1.p x1.n x1.c) ∧ (
  0 ≤ i ∧ i < (domains.n : Int) ∧ (unSome domains.p (fun a1 =>
  ∃ x2 : Int, rd H6 ((a1.add (i.toNat * 2)).add 1) = some (.int .i64 x2) ∧ (
  0 ≤ i ∧ i < (x1.n : Int) ∧ (unSome x1.p (fun a2 =>
  okRow H6 ((a2.add (i.toNat * 2)).add 1) 1 ∧ (
  letH (wrs H6 ((a2.add (i.toNat * 2)).add 1) [.int .i64 (IntKind.i64.wrap ((1 : Int) + (IntKind.i64.wrap ((IntKind.u64.wrap x2).tmod (6 : Int)))))]) (fun H7 : Heap =>
  ∃ x3 : Sl, rd H7 (⟨H2.size, 0, none⟩ : Addr) = some (.slice x3.p x3.n x3.c) ∧ (
  ∃ x4 : Sl, rd H7 (⟨H2.size, 0, none⟩ : Addr) = some (.slice x4.p x4.n x4.c) ∧ (
  0 ≤ i ∧ i < (x4.n : Int) ∧ (unSome x4.p (fun a3 =>
  ∃ x5 : Int, rd H7 ((a3.add (i.toNat * 2)).add 1) = some (.int .i64 x5) ∧ (
  0 ≤ i ∧ i < (domains.n : Int) ∧ (unSome domains.p (fun a4 =>
  ∃ x6 : Int, rd H7 (a4.add (i.toNat * 2)) = some (.int .i64 x6) ∧ (
  0 ≤ i ∧ i < (x3.n : Int) ∧ (unSome x3.p (fun a5 =>
  okRow H7 (a5.add (i.toNat * 2)) 1 ∧ (
  letH (wrs H7 (a5.add (i.toNat * 2)) [.int .i64 (IntKind.i64.wrap (x5 + (IntKind.i64.wrap ((IntKind.u64.wrap x6).tmod (8 : Int)))))]) (fun H8 : Heap =>
  letV (IntKind.i64.wrap (i + (1 : Int))) (fun i1 : Int =>
  I_ i1 H8 ∧ M_ i1 H8 < M_ i H5)))))))))))))))))))))) (
  letV (IntKind.i64.wrap (i + (1 : Int))) (fun i2 : Int =>
  I_ i2 H6 ∧ M_ i2 H6 < M_ i H5)))))))) (
  ∃ I_1 : Int → Heap → Prop, ∃ M_1 : Int → Heap → Nat, I_1 (0 : Int) H5 ∧ (∀ i3 : Int, ∀ H9 : Heap, I_1 i3 H9 → F_law38_Some_r2 R H links n H2 I_1 M_1 i3 H9))

def F_law38_Some (R : Value → Heap → Prop) (domains : Sl) (links : Sl) (ambient : Int) (H : Heap) : Prop :=
  letH (H.push (.cells #[.slice none 0 0, .slice none 0 0, .int .i64 (0 : Int)] t_law38_System (0, 0))) (fun H1 : Heap =>
  letV (if (if (5 : Int) < (domains.n : Int) then (5 : Int) else (domains.n : Int)) > (1 : Int) then (if (5 : Int) < (domains.n : Int) then (5 : Int) else (domains.n : Int)) else (1 : Int)) (fun n : Int =>
  0 ≤ n ∧ n ≤ n ∧ n * ((16 : Nat) : Int) ≤ 281474976710656 ∧ (
  letH (H1.push (.cells (zeroRow (.agg #[.int .i64 (0 : Int), .int .i64 (0 : Int)]) n.toNat) t_api_HeatDomain (0, 0))) (fun H2 : Heap =>
  letH (H2.push (.cells #[.slice none 0 0, .slice none 0 0, .int .i64 (0 : Int)] t_law38_System (0, 0))) (fun H3 : Heap =>
  okRow H3 (⟨H2.size, 0, none⟩ : Addr) 3 ∧ (
  letH (wrs H3 (⟨H2.size, 0, none⟩ : Addr) [.slice (some (⟨H1.size, 0, none⟩ : Addr)) n.toNat n.toNat, .slice none 0 0, .int .i64 (IntKind.i64.wrap ((IntKind.i64.wrap ((IntKind.u64.wrap ambient).tmod (201 : Int))) - (100 : Int)))]) (fun H4 : Heap =>
  ∃ I_ : Int → Heap → Prop, ∃ M_ : Int → Heap → Nat, I_ (0 : Int) H4 ∧ (∀ i : Int, ∀ H5 : Heap, I_ i H5 → F_law38_Some_r3 R H domains links n H2 I_ M_ i H5))))))))

theorem F_law38_Some_eq (R : Value → Heap → Prop) (domains : Sl) (links : Sl) (ambient : Int) (H : Heap) : wpF Try.prog Try.f12 [(9, .int .i64 0), (10, .int .i64 0), (12, .bool false), (13, .int .i64 0)] [] [(4, [9], [0, 1, 6, 7, 8]), (11, [10], [1, 6, 7, 8]), (16, [12, 13], [1, 6, 7, 8, 10, 11])] [26] [.slice domains.p domains.n domains.c, .slice links.p links.n links.c, .int .i64 ambient] H R = F_law38_Some R domains links ambient H := by kernel_rfl

theorem F_law38_Some_ok {R : Value → Heap → Prop} (domains : Sl) (links : Sl) (ambient : Int) {H : Heap} (h : F_law38_Some R domains links ambient H) : CallsH Try.prog n_law38_Some #[.slice domains.p domains.n domains.c, .slice links.p links.n links.c, .int .i64 ambient] H R :=
  wpF_sound Try.func12 (Eq.mpr (F_law38_Some_eq R domains links ambient H) h)

/-! ### 13: platformfw/heat.New -/

def F_heat_New_r1 (R : Value → Heap → Prop) (domains : Sl) (ambient : Int) (H4 : Heap) (I_ : Int → Heap → Prop) (M_ : Int → Heap → Nat) (x3 : Int) (H6 : Heap) : Prop :=
  iteB (decide (x3 < (domains.n : Int))) (
  0 ≤ x3 ∧ x3 < (domains.n : Int) ∧ (unSome domains.p (fun a =>
  ∃ x4 : Int, rd H6 (a.add (x3.toNat * 2)) = some (.int .i64 x4) ∧ ∃ x5 : Int, rd H6 ((a.add (x3.toNat * 2)).add 1) = some (.int .i64 x5) ∧ (
  letH (H6.push (.cells #[.int .i64 (0 : Int), .int .i64 (0 : Int)] t_api_HeatDomain (0, 0))) (fun H7 : Heap =>
  okRow H7 (⟨H6.size, 0, none⟩ : Addr) 2 ∧ (
  letH (wrs H7 (⟨H6.size, 0, none⟩ : Addr) [.int .i64 x4, .int .i64 x5]) (fun H8 : Heap =>
  ∃ x6 : Sl, rd H8 ((⟨H4.size, 0, none⟩ : Addr).add 3) = some (.slice x6.p x6.n x6.c) ∧ (
  ∃ x7 : Int, rd H8 (⟨H6.size, 0, none⟩ : Addr) = some (.int .i64 x7) ∧ (
  0 ≤ x3 ∧ x3 < (x6.n : Int) ∧ (unSome x6.p (fun a1 =>
  okRow H8 (a1.add (x3.toNat * 1)) 1 ∧ (
  letH (wrs H8 (a1.add (x3.toNat * 1)) [.int .i64 (IntKind.i64.wrap (x7 * ambient))]) (fun H9 : Heap =>
  I_ (IntKind.i64.wrap (x3 + (1 : Int))) H9 ∧ M_ (IntKind.i64.wrap (x3 + (1 : Int))) H9 < M_ x3 H6))))))))))))) (
  R (.tuple #[.pointer (some (⟨H4.size, 0, none⟩ : Addr)), .int .i64 (0 : Int)]) H6)

def F_heat_New_r2 (R : Value → Heap → Prop) (domains : Sl) (ambient : Int) (H11 : Heap) (I_1 : Int → Heap → Prop) (M_1 : Int → Heap → Nat) (x9 : Int) (H13 : Heap) : Prop :=
  iteB (decide (x9 < (domains.n : Int))) (
  0 ≤ x9 ∧ x9 < (domains.n : Int) ∧ (unSome domains.p (fun a2 =>
  ∃ x10 : Int, rd H13 (a2.add (x9.toNat * 2)) = some (.int .i64 x10) ∧ ∃ x11 : Int, rd H13 ((a2.add (x9.toNat * 2)).add 1) = some (.int .i64 x11) ∧ (
  letH (H13.push (.cells #[.int .i64 (0 : Int), .int .i64 (0 : Int)] t_api_HeatDomain (0, 0))) (fun H14 : Heap =>
  okRow H14 (⟨H13.size, 0, none⟩ : Addr) 2 ∧ (
  letH (wrs H14 (⟨H13.size, 0, none⟩ : Addr) [.int .i64 x10, .int .i64 x11]) (fun H15 : Heap =>
  ∃ x12 : Sl, rd H15 ((⟨H11.size, 0, none⟩ : Addr).add 3) = some (.slice x12.p x12.n x12.c) ∧ (
  ∃ x13 : Int, rd H15 (⟨H13.size, 0, none⟩ : Addr) = some (.int .i64 x13) ∧ (
  0 ≤ x9 ∧ x9 < (x12.n : Int) ∧ (unSome x12.p (fun a3 =>
  okRow H15 (a3.add (x9.toNat * 1)) 1 ∧ (
  letH (wrs H15 (a3.add (x9.toNat * 1)) [.int .i64 (IntKind.i64.wrap (x13 * ambient))]) (fun H16 : Heap =>
  I_1 (IntKind.i64.wrap (x9 + (1 : Int))) H16 ∧ M_1 (IntKind.i64.wrap (x9 + (1 : Int))) H16 < M_1 x9 H13))))))))))))) (
  R (.tuple #[.pointer (some (⟨H11.size, 0, none⟩ : Addr)), .int .i64 (0 : Int)]) H13)

def F_heat_New_r3 (R : Value → Heap → Prop) (domains : Sl) (ambient : Int) (H19 : Heap) (I_2 : Int → Heap → Prop) (M_2 : Int → Heap → Nat) (x16 : Int) (H21 : Heap) : Prop :=
  iteB (decide (x16 < (domains.n : Int))) (
  0 ≤ x16 ∧ x16 < (domains.n : Int) ∧ (unSome domains.p (fun a4 =>
  ∃ x17 : Int, rd H21 (a4.add (x16.toNat * 2)) = some (.int .i64 x17) ∧ ∃ x18 : Int, rd H21 ((a4.add (x16.toNat * 2)).add 1) = some (.int .i64 x18) ∧ (
  letH (H21.push (.cells #[.int .i64 (0 : Int), .int .i64 (0 : Int)] t_api_HeatDomain (0, 0))) (fun H22 : Heap =>
  okRow H22 (⟨H21.size, 0, none⟩ : Addr) 2 ∧ (
  letH (wrs H22 (⟨H21.size, 0, none⟩ : Addr) [.int .i64 x17, .int .i64 x18]) (fun H23 : Heap =>
  ∃ x19 : Sl, rd H23 ((⟨H19.size, 0, none⟩ : Addr).add 3) = some (.slice x19.p x19.n x19.c) ∧ (
  ∃ x20 : Int, rd H23 (⟨H21.size, 0, none⟩ : Addr) = some (.int .i64 x20) ∧ (
  0 ≤ x16 ∧ x16 < (x19.n : Int) ∧ (unSome x19.p (fun a5 =>
  okRow H23 (a5.add (x16.toNat * 1)) 1 ∧ (
  letH (wrs H23 (a5.add (x16.toNat * 1)) [.int .i64 (IntKind.i64.wrap (x20 * ambient))]) (fun H24 : Heap =>
  I_2 (IntKind.i64.wrap (x16 + (1 : Int))) H24 ∧ M_2 (IntKind.i64.wrap (x16 + (1 : Int))) H24 < M_2 x16 H21))))))))))))) (
  R (.tuple #[.pointer (some (⟨H19.size, 0, none⟩ : Addr)), .int .i64 (0 : Int)]) H21)

def F_heat_New (R : Value → Heap → Prop) (domains : Sl) (links : Sl) (ambient : Int) (H : Heap) : Prop :=
  CallsH Try.prog n_heat_valid #[.slice domains.p domains.n domains.c, .slice links.p links.n links.c, .int .i64 ambient] H (fun v H1 =>
  ∃ x : Bool, v = .bool x ∧ (
  iteB (!x) (
  R (.tuple #[.pointer none, .int .i64 (1 : Int)]) H1) (
  (
  CallsH Try.prog n_slices_Clone_sl_api_HeatDomain_api_HeatDomain #[.slice domains.p domains.n domains.c] H1 (fun v1 H2 =>
  ∃ x1 : Sl, v1 = .slice x1.p x1.n x1.c ∧ (
  (
  CallsH Try.prog n_slices_Clone_sl_api_HeatLink_api_HeatLink #[.slice links.p links.n links.c] H2 (fun v2 H3 =>
  ∃ x2 : Sl, v2 = .slice x2.p x2.n x2.c ∧ (
  0 ≤ (domains.n : Int) ∧ (domains.n : Int) ≤ (domains.n : Int) ∧ (domains.n : Int) * ((8 : Nat) : Int) ≤ 281474976710656 ∧ (
  letH (H3.push (.cells (zeroRow (.int .i64 (0 : Int)) (domains.n : Int).toNat) t_int64 (0, 0))) (fun H4 : Heap =>
  letH (H4.push (.cells #[.slice x1.p x1.n x1.c, .slice x2.p x2.n x2.c, .int .i64 ambient, .slice (some (⟨H3.size, 0, none⟩ : Addr)) ((domains.n : Int).toNat) ((domains.n : Int).toNat), .int .i64 (0 : Int)] t_heat_Model (0, 0))) (fun H5 : Heap =>
  ∃ I_ : Int → Heap → Prop, ∃ M_ : Int → Heap → Nat, I_ (0 : Int) H5 ∧ (∀ x3 : Int, ∀ H6 : Heap, I_ x3 H6 → F_heat_New_r1 R domains ambient H4 I_ M_ x3 H6))))))) ∧ (
  0 ≤ (domains.n : Int) ∧ (domains.n : Int) ≤ (domains.n : Int) ∧ (domains.n : Int) * ((8 : Nat) : Int) ≤ 281474976710656 ∧ (
  letH (H2.push (.cells (zeroRow (.int .i64 (0 : Int)) (domains.n : Int).toNat) t_int64 (0, 0))) (fun H10 : Heap =>
  CallsH Try.prog n_slices_Clone_sl_api_HeatLink_api_HeatLink #[.slice links.p links.n links.c] H10 (fun v3 H11 =>
  ∃ x8 : Sl, v3 = .slice x8.p x8.n x8.c ∧ (
  letH (H11.push (.cells #[.slice x1.p x1.n x1.c, .slice x8.p x8.n x8.c, .int .i64 ambient, .slice (some (⟨H2.size, 0, none⟩ : Addr)) ((domains.n : Int).toNat) ((domains.n : Int).toNat), .int .i64 (0 : Int)] t_heat_Model (0, 0))) (fun H12 : Heap =>
  ∃ I_1 : Int → Heap → Prop, ∃ M_1 : Int → Heap → Nat, I_1 (0 : Int) H12 ∧ (∀ x9 : Int, ∀ H13 : Heap, I_1 x9 H13 → F_heat_New_r2 R domains ambient H11 I_1 M_1 x9 H13)))))))))) ∧ (
  0 ≤ (domains.n : Int) ∧ (domains.n : Int) ≤ (domains.n : Int) ∧ (domains.n : Int) * ((8 : Nat) : Int) ≤ 281474976710656 ∧ (
  letH (H1.push (.cells (zeroRow (.int .i64 (0 : Int)) (domains.n : Int).toNat) t_int64 (0, 0))) (fun H17 : Heap =>
  CallsH Try.prog n_slices_Clone_sl_api_HeatDomain_api_HeatDomain #[.slice domains.p domains.n domains.c] H17 (fun v4 H18 =>
  ∃ x14 : Sl, v4 = .slice x14.p x14.n x14.c ∧ (
  CallsH Try.prog n_slices_Clone_sl_api_HeatLink_api_HeatLink #[.slice links.p links.n links.c] H18 (fun v5 H19 =>
  ∃ x15 : Sl, v5 = .slice x15.p x15.n x15.c ∧ (
  letH (H19.push (.cells #[.slice x14.p x14.n x14.c, .slice x15.p x15.n x15.c, .int .i64 ambient, .slice (some (⟨H1.size, 0, none⟩ : Addr)) ((domains.n : Int).toNat) ((domains.n : Int).toNat), .int .i64 (0 : Int)] t_heat_Model (0, 0))) (fun H20 : Heap =>
  ∃ I_2 : Int → Heap → Prop, ∃ M_2 : Int → Heap → Nat, I_2 (0 : Int) H20 ∧ (∀ x16 : Int, ∀ H21 : Heap, I_2 x16 H21 → F_heat_New_r3 R domains ambient H19 I_2 M_2 x16 H21))))))))))))

theorem F_heat_New_eq (R : Value → Heap → Prop) (domains : Sl) (links : Sl) (ambient : Int) (H : Heap) : wpF Try.prog Try.f13 [(28, .int .i64 0)] [] [(5, [28], [2, 8, 26, 27])] [26] [.slice domains.p domains.n domains.c, .slice links.p links.n links.c, .int .i64 ambient] H R = F_heat_New R domains links ambient H := by kernel_rfl

theorem F_heat_New_ok {R : Value → Heap → Prop} (domains : Sl) (links : Sl) (ambient : Int) {H : Heap} (h : F_heat_New R domains links ambient H) : CallsH Try.prog n_heat_New #[.slice domains.p domains.n domains.c, .slice links.p links.n links.c, .int .i64 ambient] H R :=
  wpF_sound Try.func13 (Eq.mpr (F_heat_New_eq R domains links ambient H) h)

/-! ### 14: platformfw/platformfwref38.New -/

def F_ref38_New_r1 (R : Value → Heap → Prop) (domains : Sl) (ambient : Int) (H1 : Heap) (I_ : Int → Heap → Prop) (M_ : Int → Heap → Nat) (i : Int) (H3 : Heap) : Prop :=
  iteB (decide (i < (domains.n : Int))) (
  ∃ x1 : Sl, rd H3 ((⟨H1.size, 0, none⟩ : Addr).add 3) = some (.slice x1.p x1.n x1.c) ∧ (
  0 ≤ i ∧ i < (domains.n : Int) ∧ (unSome domains.p (fun a =>
  ∃ x2 : Int, rd H3 (a.add (i.toNat * 2)) = some (.int .i64 x2) ∧ (
  letH (H3.push (.cells #[.int .i64 (IntKind.i64.wrap (x2 * ambient))] t_int64 (0, 0))) (fun H4 : Heap =>
  Ext H3 H4 ∧ (
  runH Try.prog (Builtin.append_ #[t_sl_int64, t_sl_int64] t_sl_int64 #[.slice x1.p x1.n x1.c, .slice (some (⟨H3.size, 0, none⟩ : Addr)) 1 1]) H4 (fun v1 H5 =>
  ∃ x3 : Sl, v1 = .slice x3.p x3.n x3.c ∧ (
  okRow H5 ((⟨H1.size, 0, none⟩ : Addr).add 3) 1 ∧ (
  letH (wrs H5 ((⟨H1.size, 0, none⟩ : Addr).add 3) [.slice x3.p x3.n x3.c]) (fun H6 : Heap =>
  letV (IntKind.i64.wrap (i + (1 : Int))) (fun i1 : Int =>
  I_ i1 H6 ∧ M_ i1 H6 < M_ i H3)))))))))))) (
  R (.tuple #[.pointer (some (⟨H1.size, 0, none⟩ : Addr)), .int .i64 (0 : Int)]) H3)

def F_ref38_New (R : Value → Heap → Prop) (domains : Sl) (links : Sl) (ambient : Int) (H : Heap) : Prop :=
  CallsH Try.prog n_ref38_valid #[.slice domains.p domains.n domains.c, .slice links.p links.n links.c, .int .i64 ambient] H (fun v H1 =>
  ∃ x : Bool, v = .bool x ∧ (
  iteB (!x) (
  R (.tuple #[.pointer none, .int .i64 (1 : Int)]) H1) (
  letH (H1.push (.cells #[.slice domains.p domains.n domains.c, .slice links.p links.n links.c, .int .i64 ambient, .slice none 0 0, .int .i64 (0 : Int)] t_ref38_Model (0, 0))) (fun H2 : Heap =>
  ∃ I_ : Int → Heap → Prop, ∃ M_ : Int → Heap → Nat, I_ (0 : Int) H2 ∧ (∀ i : Int, ∀ H3 : Heap, I_ i H3 → F_ref38_New_r1 R domains ambient H1 I_ M_ i H3)))))

theorem F_ref38_New_eq (R : Value → Heap → Prop) (domains : Sl) (links : Sl) (ambient : Int) (H : Heap) : wpF Try.prog Try.f14 [(9, .int .i64 0)] [] [(5, [9], [0, 2, 8])] [26] [.slice domains.p domains.n domains.c, .slice links.p links.n links.c, .int .i64 ambient] H R = F_ref38_New R domains links ambient H := by kernel_rfl

theorem F_ref38_New_ok {R : Value → Heap → Prop} (domains : Sl) (links : Sl) (ambient : Int) {H : Heap} (h : F_ref38_New R domains links ambient H) : CallsH Try.prog n_ref38_New #[.slice domains.p domains.n domains.c, .slice links.p links.n links.c, .int .i64 ambient] H R :=
  wpF_sound Try.func14 (Eq.mpr (F_ref38_New_eq R domains links ambient H) h)

/-! ### 15: platformfw/platformfwlaw38.Powers -/

def F_law38_Powers_r1 (R : Value → Heap → Prop) (H : Heap) (raw : Sl) (n : Int) (most : Int) (I_ : Int → Heap → Prop) (M_ : Int → Heap → Nat) (i : Int) (H2 : Heap) : Prop :=
  iteB (decide (i < n)) (
  iteB (decide (i < (raw.n : Int))) (
  0 ≤ i ∧ i < (raw.n : Int) ∧ (unSome raw.p (fun a =>
  ∃ x : Int, rd H2 (a.add (i.toNat * 1)) = some (.int .i64 x) ∧ (
  (IntKind.u64.wrap (IntKind.i64.wrap (most + (1 : Int)))) ≠ 0 ∧ (
  0 ≤ i ∧ i < (n.toNat : Int) ∧ (okRow H2 ((⟨H.size, 0, none⟩ : Addr).add (i.toNat * 1)) 1 ∧ (
  letH (wrs H2 ((⟨H.size, 0, none⟩ : Addr).add (i.toNat * 1)) [.int .i64 (IntKind.i64.wrap ((IntKind.u64.wrap x).tmod (IntKind.u64.wrap (IntKind.i64.wrap (most + (1 : Int))))))]) (fun H3 : Heap =>
  letV (IntKind.i64.wrap (i + (1 : Int))) (fun i1 : Int =>
  I_ i1 H3 ∧ M_ i1 H3 < M_ i H2))))))))) (
  R (.slice (some (⟨H.size, 0, none⟩ : Addr)) n.toNat n.toNat) H2)) (
  R (.slice (some (⟨H.size, 0, none⟩ : Addr)) n.toNat n.toNat) H2)

def F_law38_Powers (R : Value → Heap → Prop) (raw : Sl) (n : Int) (most : Int) (H : Heap) : Prop :=
  0 ≤ n ∧ n ≤ n ∧ n * ((8 : Nat) : Int) ≤ 281474976710656 ∧ (
  letH (H.push (.cells (zeroRow (.int .i64 (0 : Int)) n.toNat) t_int64 (0, 0))) (fun H1 : Heap =>
  ∃ I_ : Int → Heap → Prop, ∃ M_ : Int → Heap → Nat, I_ (0 : Int) H1 ∧ (∀ i : Int, ∀ H2 : Heap, I_ i H2 → F_law38_Powers_r1 R H raw n most I_ M_ i H2)))

theorem F_law38_Powers_eq (R : Value → Heap → Prop) (raw : Sl) (n : Int) (most : Int) (H : Heap) : wpF Try.prog Try.f15 [(8, .int .i64 0)] [] [(3, [8], [0, 1, 2, 7])] [26] [.slice raw.p raw.n raw.c, .int .i64 n, .int .i64 most] H R = F_law38_Powers R raw n most H := by kernel_rfl

theorem F_law38_Powers_ok {R : Value → Heap → Prop} (raw : Sl) (n : Int) (most : Int) {H : Heap} (h : F_law38_Powers R raw n most H) : CallsH Try.prog n_law38_Powers #[.slice raw.p raw.n raw.c, .int .i64 n, .int .i64 most] H R :=
  wpF_sound Try.func15 (Eq.mpr (F_law38_Powers_eq R raw n most H) h)

/-! ### 16: (*platformfw/heat.Model).Step -/

def F_heat_Model_Step_r1 (R : Value → Heap → Prop) (m : Addr) (t : Sl) (x13 : Sl) (I_1 : Int → Heap → Prop) (M_1 : Int → Heap → Nat) (x14 : Int) (H8 : Heap) : Prop :=
  iteB (decide (x14 < (x13.n : Int))) (
  0 ≤ x14 ∧ x14 < (x13.n : Int) ∧ (unSome x13.p (fun a5 =>
  ∃ x15 : Int, rd H8 (a5.add (x14.toNat * 3)) = some (.int .i64 x15) ∧ ∃ x16 : Int, rd H8 ((a5.add (x14.toNat * 3)).add 1) = some (.int .i64 x16) ∧ ∃ x17 : Int, rd H8 ((a5.add (x14.toNat * 3)).add 2) = some (.int .i64 x17) ∧ (
  letH (H8.push (.cells #[.int .i64 (0 : Int), .int .i64 (0 : Int), .int .i64 (0 : Int)] t_api_HeatLink (0, 0))) (fun H9 : Heap =>
  okRow H9 (⟨H8.size, 0, none⟩ : Addr) 3 ∧ (
  letH (wrs H9 (⟨H8.size, 0, none⟩ : Addr) [.int .i64 x15, .int .i64 x16, .int .i64 x17]) (fun H10 : Heap =>
  ∃ x18 : Int, rd H10 ((⟨H8.size, 0, none⟩ : Addr).add 2) = some (.int .i64 x18) ∧ (
  ∃ x19 : Int, rd H10 (⟨H8.size, 0, none⟩ : Addr) = some (.int .i64 x19) ∧ (
  0 ≤ x19 ∧ x19 < (t.n : Int) ∧ (unSome t.p (fun a6 =>
  ∃ x20 : Int, rd H10 (a6.add (x19.toNat * 1)) = some (.int .i64 x20) ∧ (
  ∃ x21 : Int, rd H10 ((⟨H8.size, 0, none⟩ : Addr).add 1) = some (.int .i64 x21) ∧ (
  0 ≤ x21 ∧ x21 < (t.n : Int) ∧ (unSome t.p (fun a7 =>
  ∃ x22 : Int, rd H10 (a7.add (x21.toNat * 1)) = some (.int .i64 x22) ∧ (
  letV (IntKind.i64.wrap (x18 * (IntKind.i64.wrap (x20 - x22)))) (fun flow : Int =>
  ∃ x23 : Sl, rd H10 (m.add 3) = some (.slice x23.p x23.n x23.c) ∧ (
  ∃ x24 : Int, rd H10 (⟨H8.size, 0, none⟩ : Addr) = some (.int .i64 x24) ∧ (
  0 ≤ x24 ∧ x24 < (x23.n : Int) ∧ (unSome x23.p (fun a8 =>
  ∃ x25 : Int, rd H10 (a8.add (x24.toNat * 1)) = some (.int .i64 x25) ∧ (
  0 ≤ x24 ∧ x24 < (x23.n : Int) ∧ (unSome x23.p (fun a9 =>
  okRow H10 (a9.add (x24.toNat * 1)) 1 ∧ (
  letH (wrs H10 (a9.add (x24.toNat * 1)) [.int .i64 (IntKind.i64.wrap (x25 - flow))]) (fun H11 : Heap =>
  ∃ x26 : Sl, rd H11 (m.add 3) = some (.slice x26.p x26.n x26.c) ∧ (
  ∃ x27 : Int, rd H11 ((⟨H8.size, 0, none⟩ : Addr).add 1) = some (.int .i64 x27) ∧ (
  0 ≤ x27 ∧ x27 < (x26.n : Int) ∧ (unSome x26.p (fun a10 =>
  ∃ x28 : Int, rd H11 (a10.add (x27.toNat * 1)) = some (.int .i64 x28) ∧ (
  0 ≤ x27 ∧ x27 < (x26.n : Int) ∧ (unSome x26.p (fun a11 =>
  okRow H11 (a11.add (x27.toNat * 1)) 1 ∧ (
  letH (wrs H11 (a11.add (x27.toNat * 1)) [.int .i64 (IntKind.i64.wrap (x28 + flow))]) (fun H12 : Heap =>
  I_1 (IntKind.i64.wrap (x14 + (1 : Int))) H12 ∧ M_1 (IntKind.i64.wrap (x14 + (1 : Int))) H12 < M_1 x14 H8))))))))))))))))))))))))))))))))))) (
  CallsH Try.prog n_heat_Model_temperatures #[.pointer (some m)] H8 (fun v2 H13 =>
  ∃ x29 : Sl, v2 = .slice x29.p x29.n x29.c ∧ (
  R (.tuple #[.slice x29.p x29.n x29.c, .int .i64 (0 : Int)]) H13)))

def F_heat_Model_Step_r2 (R : Value → Heap → Prop) (m : Addr) (power : Sl) (t : Sl) (x2 : Sl) (I_ : Int → Heap → Prop) (M_ : Int → Heap → Nat) (x3 : Int) (H3 : Heap) : Prop :=
  iteB (decide (x3 < (x2.n : Int))) (
  0 ≤ x3 ∧ x3 < (x2.n : Int) ∧ (unSome x2.p (fun a =>
  ∃ x4 : Int, rd H3 (a.add (x3.toNat * 2)) = some (.int .i64 x4) ∧ ∃ x5 : Int, rd H3 ((a.add (x3.toNat * 2)).add 1) = some (.int .i64 x5) ∧ (
  letH (H3.push (.cells #[.int .i64 (0 : Int), .int .i64 (0 : Int)] t_api_HeatDomain (0, 0))) (fun H4 : Heap =>
  okRow H4 (⟨H3.size, 0, none⟩ : Addr) 2 ∧ (
  letH (wrs H4 (⟨H3.size, 0, none⟩ : Addr) [.int .i64 x4, .int .i64 x5]) (fun H5 : Heap =>
  ∃ x6 : Int, rd H5 ((⟨H3.size, 0, none⟩ : Addr).add 1) = some (.int .i64 x6) ∧ (
  0 ≤ x3 ∧ x3 < (t.n : Int) ∧ (unSome t.p (fun a1 =>
  ∃ x7 : Int, rd H5 (a1.add (x3.toNat * 1)) = some (.int .i64 x7) ∧ (
  ∃ x8 : Int, rd H5 (m.add 2) = some (.int .i64 x8) ∧ (
  letV (IntKind.i64.wrap (x6 * (IntKind.i64.wrap (x7 - x8)))) (fun out : Int =>
  ∃ x9 : Sl, rd H5 (m.add 3) = some (.slice x9.p x9.n x9.c) ∧ (
  0 ≤ x3 ∧ x3 < (x9.n : Int) ∧ (unSome x9.p (fun a2 =>
  ∃ x10 : Int, rd H5 (a2.add (x3.toNat * 1)) = some (.int .i64 x10) ∧ (
  0 ≤ x3 ∧ x3 < (power.n : Int) ∧ (unSome power.p (fun a3 =>
  ∃ x11 : Int, rd H5 (a3.add (x3.toNat * 1)) = some (.int .i64 x11) ∧ (
  0 ≤ x3 ∧ x3 < (x9.n : Int) ∧ (unSome x9.p (fun a4 =>
  okRow H5 (a4.add (x3.toNat * 1)) 1 ∧ (
  letH (wrs H5 (a4.add (x3.toNat * 1)) [.int .i64 (IntKind.i64.wrap (x10 + (IntKind.i64.wrap (x11 - out))))]) (fun H6 : Heap =>
  ∃ x12 : Int, rd H6 (m.add 4) = some (.int .i64 x12) ∧ (
  okRow H6 (m.add 4) 1 ∧ (
  letH (wrs H6 (m.add 4) [.int .i64 (IntKind.i64.wrap (x12 + out))]) (fun H7 : Heap =>
  I_ (IntKind.i64.wrap (x3 + (1 : Int))) H7 ∧ M_ (IntKind.i64.wrap (x3 + (1 : Int))) H7 < M_ x3 H3))))))))))))))))))))))))))) (
  ∃ x13 : Sl, rd H3 (m.add 1) = some (.slice x13.p x13.n x13.c) ∧ (
  ∃ I_1 : Int → Heap → Prop, ∃ M_1 : Int → Heap → Nat, I_1 (0 : Int) H3 ∧ (∀ x14 : Int, ∀ H8 : Heap, I_1 x14 H8 → F_heat_Model_Step_r1 R m t x13 I_1 M_1 x14 H8)))

def F_heat_Model_Step (R : Value → Heap → Prop) (m : Addr) (power : Sl) (H : Heap) : Prop :=
  ∃ x : Sl, rd H m = some (.slice x.p x.n x.c) ∧ (
  CallsH Try.prog n_heat_validPower #[.slice power.p power.n power.c, .int .i64 (x.n : Int)] H (fun v H1 =>
  ∃ x1 : Bool, v = .bool x1 ∧ (
  iteB (!x1) (
  R (.tuple #[.slice none 0 0, .int .i64 (1 : Int)]) H1) (
  CallsH Try.prog n_heat_Model_temperatures #[.pointer (some m)] H1 (fun v1 H2 =>
  ∃ t : Sl, v1 = .slice t.p t.n t.c ∧ (
  ∃ x2 : Sl, rd H2 m = some (.slice x2.p x2.n x2.c) ∧ (
  ∃ I_ : Int → Heap → Prop, ∃ M_ : Int → Heap → Nat, I_ (0 : Int) H2 ∧ (∀ x3 : Int, ∀ H3 : Heap, I_ x3 H3 → F_heat_Model_Step_r2 R m power t x2 I_ M_ x3 H3))))))))

theorem F_heat_Model_Step_eq (R : Value → Heap → Prop) (m : Addr) (power : Sl) (H : Heap) : wpF Try.prog Try.f16 [(28, .int .i64 0), (74, .int .i64 0)] [] [(5, [28], [0, 1, 6, 26, 27]), (12, [74], [0, 6, 72, 73])] [26] [.pointer (some m), .slice power.p power.n power.c] H R = F_heat_Model_Step R m power H := by kernel_rfl

theorem F_heat_Model_Step_ok {R : Value → Heap → Prop} (m : Addr) (power : Sl) {H : Heap} (h : F_heat_Model_Step R m power H) : CallsH Try.prog n_heat_Model_Step #[.pointer (some m), .slice power.p power.n power.c] H R :=
  wpF_sound Try.func16 (Eq.mpr (F_heat_Model_Step_eq R m power H) h)

/-! ### 17: (*platformfw/platformfwref38.Model).Step -/

def F_ref38_Model_Step_r1 (R : Value → Heap → Prop) (m : Addr) (t : Sl) (I_1 : Int → Heap → Prop) (M_1 : Int → Heap → Nat) (i2 : Int) (H6 : Heap) : Prop :=
  ∃ x12 : Sl, rd H6 (m.add 1) = some (.slice x12.p x12.n x12.c) ∧ (
  iteB (decide (i2 < (x12.n : Int))) (
  ∃ x13 : Sl, rd H6 (m.add 1) = some (.slice x13.p x13.n x13.c) ∧ (
  0 ≤ i2 ∧ i2 < (x13.n : Int) ∧ (unSome x13.p (fun a5 =>
  ∃ x14 : Int, rd H6 (a5.add (i2.toNat * 3)) = some (.int .i64 x14) ∧ ∃ x15 : Int, rd H6 ((a5.add (i2.toNat * 3)).add 1) = some (.int .i64 x15) ∧ ∃ x16 : Int, rd H6 ((a5.add (i2.toNat * 3)).add 2) = some (.int .i64 x16) ∧ (
  letH (H6.push (.cells #[.int .i64 (0 : Int), .int .i64 (0 : Int), .int .i64 (0 : Int)] t_api_HeatLink (0, 0))) (fun H7 : Heap =>
  okRow H7 (⟨H6.size, 0, none⟩ : Addr) 3 ∧ (
  letH (wrs H7 (⟨H6.size, 0, none⟩ : Addr) [.int .i64 x14, .int .i64 x15, .int .i64 x16]) (fun H8 : Heap =>
  ∃ x17 : Int, rd H8 ((⟨H6.size, 0, none⟩ : Addr).add 2) = some (.int .i64 x17) ∧ (
  ∃ x18 : Int, rd H8 (⟨H6.size, 0, none⟩ : Addr) = some (.int .i64 x18) ∧ (
  0 ≤ x18 ∧ x18 < (t.n : Int) ∧ (unSome t.p (fun a6 =>
  ∃ x19 : Int, rd H8 (a6.add (x18.toNat * 1)) = some (.int .i64 x19) ∧ (
  ∃ x20 : Int, rd H8 ((⟨H6.size, 0, none⟩ : Addr).add 1) = some (.int .i64 x20) ∧ (
  0 ≤ x20 ∧ x20 < (t.n : Int) ∧ (unSome t.p (fun a7 =>
  ∃ x21 : Int, rd H8 (a7.add (x20.toNat * 1)) = some (.int .i64 x21) ∧ (
  letV (IntKind.i64.wrap (x17 * (IntKind.i64.wrap (x19 - x21)))) (fun flow : Int =>
  ∃ x22 : Sl, rd H8 (m.add 3) = some (.slice x22.p x22.n x22.c) ∧ (
  ∃ x23 : Int, rd H8 (⟨H6.size, 0, none⟩ : Addr) = some (.int .i64 x23) ∧ (
  ∃ x24 : Sl, rd H8 (m.add 3) = some (.slice x24.p x24.n x24.c) ∧ (
  ∃ x25 : Int, rd H8 (⟨H6.size, 0, none⟩ : Addr) = some (.int .i64 x25) ∧ (
  0 ≤ x25 ∧ x25 < (x24.n : Int) ∧ (unSome x24.p (fun a8 =>
  ∃ x26 : Int, rd H8 (a8.add (x25.toNat * 1)) = some (.int .i64 x26) ∧ (
  0 ≤ x23 ∧ x23 < (x22.n : Int) ∧ (unSome x22.p (fun a9 =>
  okRow H8 (a9.add (x23.toNat * 1)) 1 ∧ (
  letH (wrs H8 (a9.add (x23.toNat * 1)) [.int .i64 (IntKind.i64.wrap (x26 - flow))]) (fun H9 : Heap =>
  ∃ x27 : Sl, rd H9 (m.add 3) = some (.slice x27.p x27.n x27.c) ∧ (
  ∃ x28 : Int, rd H9 ((⟨H6.size, 0, none⟩ : Addr).add 1) = some (.int .i64 x28) ∧ (
  ∃ x29 : Sl, rd H9 (m.add 3) = some (.slice x29.p x29.n x29.c) ∧ (
  ∃ x30 : Int, rd H9 ((⟨H6.size, 0, none⟩ : Addr).add 1) = some (.int .i64 x30) ∧ (
  0 ≤ x30 ∧ x30 < (x29.n : Int) ∧ (unSome x29.p (fun a10 =>
  ∃ x31 : Int, rd H9 (a10.add (x30.toNat * 1)) = some (.int .i64 x31) ∧ (
  0 ≤ x28 ∧ x28 < (x27.n : Int) ∧ (unSome x27.p (fun a11 =>
  okRow H9 (a11.add (x28.toNat * 1)) 1 ∧ (
  letH (wrs H9 (a11.add (x28.toNat * 1)) [.int .i64 (IntKind.i64.wrap (x31 + flow))]) (fun H10 : Heap =>
  letV (IntKind.i64.wrap (i2 + (1 : Int))) (fun i3 : Int =>
  I_1 i3 H10 ∧ M_1 i3 H10 < M_1 i2 H6))))))))))))))))))))))))))))))))))))))))) (
  CallsH Try.prog n_ref38_Model_temperatures #[.pointer (some m)] H6 (fun v2 H11 =>
  ∃ x32 : Sl, v2 = .slice x32.p x32.n x32.c ∧ (
  R (.tuple #[.slice x32.p x32.n x32.c, .int .i64 (0 : Int)]) H11))))

def F_ref38_Model_Step_r2 (R : Value → Heap → Prop) (m : Addr) (power : Sl) (t : Sl) (I_ : Int → Heap → Prop) (M_ : Int → Heap → Nat) (i : Int) (H3 : Heap) : Prop :=
  ∃ x2 : Sl, rd H3 m = some (.slice x2.p x2.n x2.c) ∧ (
  iteB (decide (i < (x2.n : Int))) (
  ∃ x3 : Sl, rd H3 m = some (.slice x3.p x3.n x3.c) ∧ (
  0 ≤ i ∧ i < (x3.n : Int) ∧ (unSome x3.p (fun a =>
  ∃ x4 : Int, rd H3 ((a.add (i.toNat * 2)).add 1) = some (.int .i64 x4) ∧ (
  0 ≤ i ∧ i < (t.n : Int) ∧ (unSome t.p (fun a1 =>
  ∃ x5 : Int, rd H3 (a1.add (i.toNat * 1)) = some (.int .i64 x5) ∧ (
  ∃ x6 : Int, rd H3 (m.add 2) = some (.int .i64 x6) ∧ (
  letV (IntKind.i64.wrap (x4 * (IntKind.i64.wrap (x5 - x6)))) (fun out : Int =>
  ∃ x7 : Sl, rd H3 (m.add 3) = some (.slice x7.p x7.n x7.c) ∧ (
  ∃ x8 : Sl, rd H3 (m.add 3) = some (.slice x8.p x8.n x8.c) ∧ (
  0 ≤ i ∧ i < (x8.n : Int) ∧ (unSome x8.p (fun a2 =>
  ∃ x9 : Int, rd H3 (a2.add (i.toNat * 1)) = some (.int .i64 x9) ∧ (
  0 ≤ i ∧ i < (power.n : Int) ∧ (unSome power.p (fun a3 =>
  ∃ x10 : Int, rd H3 (a3.add (i.toNat * 1)) = some (.int .i64 x10) ∧ (
  0 ≤ i ∧ i < (x7.n : Int) ∧ (unSome x7.p (fun a4 =>
  okRow H3 (a4.add (i.toNat * 1)) 1 ∧ (
  letH (wrs H3 (a4.add (i.toNat * 1)) [.int .i64 (IntKind.i64.wrap ((IntKind.i64.wrap (x9 + x10)) - out))]) (fun H4 : Heap =>
  ∃ x11 : Int, rd H4 (m.add 4) = some (.int .i64 x11) ∧ (
  okRow H4 (m.add 4) 1 ∧ (
  letH (wrs H4 (m.add 4) [.int .i64 (IntKind.i64.wrap (x11 + out))]) (fun H5 : Heap =>
  letV (IntKind.i64.wrap (i + (1 : Int))) (fun i1 : Int =>
  I_ i1 H5 ∧ M_ i1 H5 < M_ i H3)))))))))))))))))))))))))) (
  ∃ I_1 : Int → Heap → Prop, ∃ M_1 : Int → Heap → Nat, I_1 (0 : Int) H3 ∧ (∀ i2 : Int, ∀ H6 : Heap, I_1 i2 H6 → F_ref38_Model_Step_r1 R m t I_1 M_1 i2 H6)))

def F_ref38_Model_Step (R : Value → Heap → Prop) (m : Addr) (power : Sl) (H : Heap) : Prop :=
  ∃ x : Sl, rd H m = some (.slice x.p x.n x.c) ∧ (
  CallsH Try.prog n_ref38_powers #[.int .i64 (x.n : Int), .slice power.p power.n power.c] H (fun v H1 =>
  ∃ x1 : Bool, v = .bool x1 ∧ (
  iteB (!x1) (
  R (.tuple #[.slice none 0 0, .int .i64 (1 : Int)]) H1) (
  CallsH Try.prog n_ref38_Model_temperatures #[.pointer (some m)] H1 (fun v1 H2 =>
  ∃ t : Sl, v1 = .slice t.p t.n t.c ∧ (
  ∃ I_ : Int → Heap → Prop, ∃ M_ : Int → Heap → Nat, I_ (0 : Int) H2 ∧ (∀ i : Int, ∀ H3 : Heap, I_ i H3 → F_ref38_Model_Step_r2 R m power t I_ M_ i H3)))))))

theorem F_ref38_Model_Step_eq (R : Value → Heap → Prop) (m : Addr) (power : Sl) (H : Heap) : wpF Try.prog Try.f17 [(7, .int .i64 0), (9, .int .i64 0)] [] [(5, [7], [0, 1, 6]), (11, [9], [0, 6])] [26] [.pointer (some m), .slice power.p power.n power.c] H R = F_ref38_Model_Step R m power H := by kernel_rfl

theorem F_ref38_Model_Step_ok {R : Value → Heap → Prop} (m : Addr) (power : Sl) {H : Heap} (h : F_ref38_Model_Step R m power H) : CallsH Try.prog n_ref38_Model_Step #[.pointer (some m), .slice power.p power.n power.c] H R :=
  wpF_sound Try.func17 (Eq.mpr (F_ref38_Model_Step_eq R m power H) h)

/-! ### 18: platformfw/platformfwhelp.Equal[int64] -/

def F_help_Equal_int64_r1 (R : Value → Heap → Prop) (a : Sl) (b : Sl) (I_ : Int → Heap → Prop) (M_ : Int → Heap → Nat) (i : Int) (H1 : Heap) : Prop :=
  iteB (decide (i < (a.n : Int))) (
  0 ≤ i ∧ i < (a.n : Int) ∧ (unSome a.p (fun a1 =>
  ∃ x : Int, rd H1 (a1.add (i.toNat * 1)) = some (.int .i64 x) ∧ (
  0 ≤ i ∧ i < (b.n : Int) ∧ (unSome b.p (fun a2 =>
  ∃ x1 : Int, rd H1 (a2.add (i.toNat * 1)) = some (.int .i64 x1) ∧ (
  iteB (x != x1) (
  R (.bool false) H1) (
  letV (IntKind.i64.wrap (i + (1 : Int))) (fun i1 : Int =>
  I_ i1 H1 ∧ M_ i1 H1 < M_ i H1))))))))) (
  R (.bool true) H1)

def F_help_Equal_int64 (R : Value → Heap → Prop) (a : Sl) (b : Sl) (H : Heap) : Prop :=
  iteB ((a.n : Int) != (b.n : Int)) (
  R (.bool false) H) (
  ∃ I_ : Int → Heap → Prop, ∃ M_ : Int → Heap → Nat, I_ (0 : Int) H ∧ (∀ i : Int, ∀ H1 : Heap, I_ i H1 → F_help_Equal_int64_r1 R a b I_ M_ i H1))

theorem F_help_Equal_int64_eq (R : Value → Heap → Prop) (a : Sl) (b : Sl) (H : Heap) : wpF Try.prog Try.f18 [(5, .int .i64 0)] [] [(4, [5], [0, 1])] [26] [.slice a.p a.n a.c, .slice b.p b.n b.c] H R = F_help_Equal_int64 R a b H := by kernel_rfl

theorem F_help_Equal_int64_ok {R : Value → Heap → Prop} (a : Sl) (b : Sl) {H : Heap} (h : F_help_Equal_int64 R a b H) : CallsH Try.prog n_help_Equal_int64 #[.slice a.p a.n a.c, .slice b.p b.n b.c] H R :=
  wpF_sound Try.func18 (Eq.mpr (F_help_Equal_int64_eq R a b H) h)

/-! ### 19: (*platformfw/heat.Model).Released -/

def F_heat_Model_Released (R : Value → Heap → Prop) (m : Addr) (H : Heap) : Prop :=
  ∃ x : Int, rd H (m.add 4) = some (.int .i64 x) ∧ (
  R (.int .i64 x) H)

theorem F_heat_Model_Released_eq (R : Value → Heap → Prop) (m : Addr) (H : Heap) : wpF Try.prog Try.f19 [] [] [] [26] [.pointer (some m)] H R = F_heat_Model_Released R m H := by kernel_rfl

theorem F_heat_Model_Released_ok {R : Value → Heap → Prop} (m : Addr) {H : Heap} (h : F_heat_Model_Released R m H) : CallsH Try.prog n_heat_Model_Released #[.pointer (some m)] H R :=
  wpF_sound Try.func19 (Eq.mpr (F_heat_Model_Released_eq R m H) h)

/-! ### 20: (*platformfw/platformfwref38.Model).Released -/

def F_ref38_Model_Released (R : Value → Heap → Prop) (m : Addr) (H : Heap) : Prop :=
  ∃ x : Int, rd H (m.add 4) = some (.int .i64 x) ∧ (
  R (.int .i64 x) H)

theorem F_ref38_Model_Released_eq (R : Value → Heap → Prop) (m : Addr) (H : Heap) : wpF Try.prog Try.f20 [] [] [] [26] [.pointer (some m)] H R = F_ref38_Model_Released R m H := by kernel_rfl

theorem F_ref38_Model_Released_ok {R : Value → Heap → Prop} (m : Addr) {H : Heap} (h : F_ref38_Model_Released R m H) : CallsH Try.prog n_ref38_Model_Released #[.pointer (some m)] H R :=
  wpF_sound Try.func20 (Eq.mpr (F_ref38_Model_Released_eq R m H) h)

/-! ### 21: (*platformfw/heat.Model).Energy -/

def F_heat_Model_Energy (R : Value → Heap → Prop) (m : Addr) (domain : Int) (H : Heap) : Prop :=
  iteB (decide (domain < (0 : Int))) (
  R (.int .i64 (0 : Int)) H) (
  ∃ x : Sl, rd H m = some (.slice x.p x.n x.c) ∧ (
  iteB (decide (domain ≥ (x.n : Int))) (
  R (.int .i64 (0 : Int)) H) (
  ∃ x1 : Sl, rd H (m.add 3) = some (.slice x1.p x1.n x1.c) ∧ (
  0 ≤ domain ∧ domain < (x1.n : Int) ∧ (unSome x1.p (fun a =>
  ∃ x2 : Int, rd H (a.add (domain.toNat * 1)) = some (.int .i64 x2) ∧ (
  R (.int .i64 x2) H)))))))

theorem F_heat_Model_Energy_eq (R : Value → Heap → Prop) (m : Addr) (domain : Int) (H : Heap) : wpF Try.prog Try.f21 [] [] [] [26] [.pointer (some m), .int .i64 domain] H R = F_heat_Model_Energy R m domain H := by kernel_rfl

theorem F_heat_Model_Energy_ok {R : Value → Heap → Prop} (m : Addr) (domain : Int) {H : Heap} (h : F_heat_Model_Energy R m domain H) : CallsH Try.prog n_heat_Model_Energy #[.pointer (some m), .int .i64 domain] H R :=
  wpF_sound Try.func21 (Eq.mpr (F_heat_Model_Energy_eq R m domain H) h)

/-! ### 22: (*platformfw/platformfwref38.Model).Energy -/

def F_ref38_Model_Energy (R : Value → Heap → Prop) (m : Addr) (domain : Int) (H : Heap) : Prop :=
  iteB (decide (domain < (0 : Int))) (
  R (.int .i64 (0 : Int)) H) (
  ∃ x : Sl, rd H m = some (.slice x.p x.n x.c) ∧ (
  iteB (decide (domain ≥ (x.n : Int))) (
  R (.int .i64 (0 : Int)) H) (
  ∃ x1 : Sl, rd H (m.add 3) = some (.slice x1.p x1.n x1.c) ∧ (
  0 ≤ domain ∧ domain < (x1.n : Int) ∧ (unSome x1.p (fun a =>
  ∃ x2 : Int, rd H (a.add (domain.toNat * 1)) = some (.int .i64 x2) ∧ (
  R (.int .i64 x2) H)))))))

theorem F_ref38_Model_Energy_eq (R : Value → Heap → Prop) (m : Addr) (domain : Int) (H : Heap) : wpF Try.prog Try.f22 [] [] [] [26] [.pointer (some m), .int .i64 domain] H R = F_ref38_Model_Energy R m domain H := by kernel_rfl

theorem F_ref38_Model_Energy_ok {R : Value → Heap → Prop} (m : Addr) (domain : Int) {H : Heap} (h : F_ref38_Model_Energy R m domain H) : CallsH Try.prog n_ref38_Model_Energy #[.pointer (some m), .int .i64 domain] H R :=
  wpF_sound Try.func22 (Eq.mpr (F_ref38_Model_Energy_eq R m domain H) h)

/-! ### 23: (*platformfw/heat.Model).Temperature -/

def F_heat_Model_Temperature (R : Value → Heap → Prop) (m : Addr) (domain : Int) (H : Heap) : Prop :=
  iteB (decide (domain < (0 : Int))) (
  R (.int .i64 (0 : Int)) H) (
  ∃ x : Sl, rd H m = some (.slice x.p x.n x.c) ∧ (
  iteB (decide (domain ≥ (x.n : Int))) (
  R (.int .i64 (0 : Int)) H) (
  ∃ x1 : Sl, rd H (m.add 3) = some (.slice x1.p x1.n x1.c) ∧ (
  0 ≤ domain ∧ domain < (x1.n : Int) ∧ (unSome x1.p (fun a =>
  ∃ energy : Int, rd H (a.add (domain.toNat * 1)) = some (.int .i64 energy) ∧ (
  ∃ x2 : Sl, rd H m = some (.slice x2.p x2.n x2.c) ∧ (
  0 ≤ domain ∧ domain < (x2.n : Int) ∧ (unSome x2.p (fun a1 =>
  ∃ capacity : Int, rd H (a1.add (domain.toNat * 2)) = some (.int .i64 capacity) ∧ (
  capacity ≠ 0 ∧ (
  letV (IntKind.i64.wrap (energy.tdiv capacity)) (fun t : Int =>
  capacity ≠ 0 ∧ (
  iteB (decide ((energy.tmod capacity) < (0 : Int))) (
  letV (IntKind.i64.wrap (t - (1 : Int))) (fun t1 : Int =>
  R (.int .i64 t1) H)) (
  R (.int .i64 t) H)))))))))))))))

theorem F_heat_Model_Temperature_eq (R : Value → Heap → Prop) (m : Addr) (domain : Int) (H : Heap) : wpF Try.prog Try.f23 [] [] [] [26] [.pointer (some m), .int .i64 domain] H R = F_heat_Model_Temperature R m domain H := by kernel_rfl

theorem F_heat_Model_Temperature_ok {R : Value → Heap → Prop} (m : Addr) (domain : Int) {H : Heap} (h : F_heat_Model_Temperature R m domain H) : CallsH Try.prog n_heat_Model_Temperature #[.pointer (some m), .int .i64 domain] H R :=
  wpF_sound Try.func23 (Eq.mpr (F_heat_Model_Temperature_eq R m domain H) h)

/-! ### 24: (*platformfw/platformfwref38.Model).Temperature -/

def F_ref38_Model_Temperature (R : Value → Heap → Prop) (m : Addr) (domain : Int) (H : Heap) : Prop :=
  iteB (decide (domain < (0 : Int))) (
  R (.int .i64 (0 : Int)) H) (
  ∃ x : Sl, rd H m = some (.slice x.p x.n x.c) ∧ (
  iteB (decide (domain ≥ (x.n : Int))) (
  R (.int .i64 (0 : Int)) H) (
  ∃ x1 : Sl, rd H (m.add 3) = some (.slice x1.p x1.n x1.c) ∧ (
  0 ≤ domain ∧ domain < (x1.n : Int) ∧ (unSome x1.p (fun a =>
  ∃ x2 : Int, rd H (a.add (domain.toNat * 1)) = some (.int .i64 x2) ∧ (
  ∃ x3 : Sl, rd H m = some (.slice x3.p x3.n x3.c) ∧ (
  0 ≤ domain ∧ domain < (x3.n : Int) ∧ (unSome x3.p (fun a1 =>
  ∃ x4 : Int, rd H (a1.add (domain.toNat * 2)) = some (.int .i64 x4) ∧ (
  CallsH Try.prog n_ref38_floor #[.int .i64 x2, .int .i64 x4] H (fun v H1 =>
  ∃ x5 : Int, v = .int .i64 x5 ∧ (
  R (.int .i64 x5) H1)))))))))))))

theorem F_ref38_Model_Temperature_eq (R : Value → Heap → Prop) (m : Addr) (domain : Int) (H : Heap) : wpF Try.prog Try.f24 [] [] [] [26] [.pointer (some m), .int .i64 domain] H R = F_ref38_Model_Temperature R m domain H := by kernel_rfl

theorem F_ref38_Model_Temperature_ok {R : Value → Heap → Prop} (m : Addr) (domain : Int) {H : Heap} (h : F_ref38_Model_Temperature R m domain H) : CallsH Try.prog n_ref38_Model_Temperature #[.pointer (some m), .int .i64 domain] H R :=
  wpF_sound Try.func24 (Eq.mpr (F_ref38_Model_Temperature_eq R m domain H) h)

/-! ### 25: (*platformfw/heat.Model).Copy -/

def F_heat_Model_Copy (R : Value → Heap → Prop) (m : Addr) (H : Heap) : Prop :=
  ∃ x : Sl, rd H m = some (.slice x.p x.n x.c) ∧ ∃ x1 : Sl, rd H (m.add 1) = some (.slice x1.p x1.n x1.c) ∧ ∃ x2 : Int, rd H (m.add 2) = some (.int .i64 x2) ∧ ∃ x3 : Sl, rd H (m.add 3) = some (.slice x3.p x3.n x3.c) ∧ ∃ x4 : Int, rd H (m.add 4) = some (.int .i64 x4) ∧ (
  letH (H.push (.cells #[.slice none 0 0, .slice none 0 0, .int .i64 (0 : Int), .slice none 0 0, .int .i64 (0 : Int)] t_heat_Model (0, 0))) (fun H1 : Heap =>
  okRow H1 (⟨H.size, 0, none⟩ : Addr) 5 ∧ (
  letH (wrs H1 (⟨H.size, 0, none⟩ : Addr) [.slice x.p x.n x.c, .slice x1.p x1.n x1.c, .int .i64 x2, .slice x3.p x3.n x3.c, .int .i64 x4]) (fun H2 : Heap =>
  ∃ x5 : Sl, rd H2 m = some (.slice x5.p x5.n x5.c) ∧ (
  CallsH Try.prog n_slices_Clone_sl_api_HeatDomain_api_HeatDomain #[.slice x5.p x5.n x5.c] H2 (fun v H3 =>
  ∃ x6 : Sl, v = .slice x6.p x6.n x6.c ∧ (
  okRow H3 (⟨H.size, 0, none⟩ : Addr) 1 ∧ (
  letH (wrs H3 (⟨H.size, 0, none⟩ : Addr) [.slice x6.p x6.n x6.c]) (fun H4 : Heap =>
  ∃ x7 : Sl, rd H4 (m.add 1) = some (.slice x7.p x7.n x7.c) ∧ (
  CallsH Try.prog n_slices_Clone_sl_api_HeatLink_api_HeatLink #[.slice x7.p x7.n x7.c] H4 (fun v1 H5 =>
  ∃ x8 : Sl, v1 = .slice x8.p x8.n x8.c ∧ (
  okRow H5 ((⟨H.size, 0, none⟩ : Addr).add 1) 1 ∧ (
  letH (wrs H5 ((⟨H.size, 0, none⟩ : Addr).add 1) [.slice x8.p x8.n x8.c]) (fun H6 : Heap =>
  ∃ x9 : Sl, rd H6 (m.add 3) = some (.slice x9.p x9.n x9.c) ∧ (
  CallsH Try.prog n_slices_Clone_sl_int64_int64 #[.slice x9.p x9.n x9.c] H6 (fun v2 H7 =>
  ∃ x10 : Sl, v2 = .slice x10.p x10.n x10.c ∧ (
  okRow H7 ((⟨H.size, 0, none⟩ : Addr).add 3) 1 ∧ (
  letH (wrs H7 ((⟨H.size, 0, none⟩ : Addr).add 3) [.slice x10.p x10.n x10.c]) (fun H8 : Heap =>
  R (.pointer (some (⟨H.size, 0, none⟩ : Addr))) H8)))))))))))))))))))

theorem F_heat_Model_Copy_eq (R : Value → Heap → Prop) (m : Addr) (H : Heap) : wpF Try.prog Try.f25 [] [] [] [26] [.pointer (some m)] H R = F_heat_Model_Copy R m H := by kernel_rfl

theorem F_heat_Model_Copy_ok {R : Value → Heap → Prop} (m : Addr) {H : Heap} (h : F_heat_Model_Copy R m H) : CallsH Try.prog n_heat_Model_Copy #[.pointer (some m)] H R :=
  wpF_sound Try.func25 (Eq.mpr (F_heat_Model_Copy_eq R m H) h)

/-! ### 26: platformfw/platformfwhelp.Mod -/

def F_help_Mod (R : Value → Heap → Prop) (v : Int) (n : Int) (H : Heap) : Prop :=
  (IntKind.u64.wrap n) ≠ 0 ∧ (
  letV (IntKind.i64.wrap ((IntKind.u64.wrap v).tmod (IntKind.u64.wrap n))) (fun x : Int =>
  R (.int .i64 x) H))

theorem F_help_Mod_eq (R : Value → Heap → Prop) (v : Int) (n : Int) (H : Heap) : wpF Try.prog Try.f26 [] [] [] [26] [.int .i64 v, .int .i64 n] H R = F_help_Mod R v n H := by kernel_rfl

theorem F_help_Mod_ok {R : Value → Heap → Prop} (v : Int) (n : Int) {H : Heap} (h : F_help_Mod R v n H) : CallsH Try.prog n_help_Mod #[.int .i64 v, .int .i64 n] H R :=
  wpF_sound Try.func26 (Eq.mpr (F_help_Mod_eq R v n H) h)

/-! ### 27: platformfw/heat.Bound -/

def F_heat_Bound_r1 (R : Value → Heap → Prop) (domains : Sl) (ambient : Int) (power : Sl) (I_ : Int → Int → Heap → Prop) (M_ : Int → Int → Heap → Nat) (greatest : Int) (x2 : Int) (H3 : Heap) : Prop :=
  iteB (decide (x2 < (domains.n : Int))) (
  0 ≤ x2 ∧ x2 < (domains.n : Int) ∧ (unSome domains.p (fun a =>
  ∃ x3 : Int, rd H3 (a.add (x2.toNat * 2)) = some (.int .i64 x3) ∧ ∃ x4 : Int, rd H3 ((a.add (x2.toNat * 2)).add 1) = some (.int .i64 x4) ∧ (
  letH (H3.push (.cells #[.int .i64 (0 : Int), .int .i64 (0 : Int)] t_api_HeatDomain (0, 0))) (fun H4 : Heap =>
  okRow H4 (⟨H3.size, 0, none⟩ : Addr) 2 ∧ (
  letH (wrs H4 (⟨H3.size, 0, none⟩ : Addr) [.int .i64 x3, .int .i64 x4]) (fun H5 : Heap =>
  0 ≤ x2 ∧ x2 < (power.n : Int) ∧ (unSome power.p (fun a1 =>
  ∃ x5 : Int, rd H5 (a1.add (x2.toNat * 1)) = some (.int .i64 x5) ∧ (
  ∃ x6 : Int, rd H5 ((⟨H3.size, 0, none⟩ : Addr).add 1) = some (.int .i64 x6) ∧ (
  ∃ x7 : Int, rd H5 ((⟨H3.size, 0, none⟩ : Addr).add 1) = some (.int .i64 x7) ∧ (
  x7 ≠ 0 ∧ (
  letV (if (IntKind.i64.wrap ((IntKind.i64.wrap ((IntKind.i64.wrap (x5 + x6)) - (1 : Int))).tdiv x7)) > greatest then (IntKind.i64.wrap ((IntKind.i64.wrap ((IntKind.i64.wrap (x5 + x6)) - (1 : Int))).tdiv x7)) else greatest) (fun greatest1 : Int =>
  I_ greatest1 (IntKind.i64.wrap (x2 + (1 : Int))) H5 ∧ M_ greatest1 (IntKind.i64.wrap (x2 + (1 : Int))) H5 < M_ greatest x2 H3)))))))))))))) (
  letV (IntKind.i64.wrap (ambient + greatest)) (fun x8 : Int =>
  R (.tuple #[.int .i64 x8, .int .i64 (0 : Int)]) H3))

def F_heat_Bound (R : Value → Heap → Prop) (domains : Sl) (links : Sl) (ambient : Int) (power : Sl) (H : Heap) : Prop :=
  CallsH Try.prog n_heat_valid #[.slice domains.p domains.n domains.c, .slice links.p links.n links.c, .int .i64 ambient] H (fun v H1 =>
  ∃ x : Bool, v = .bool x ∧ (
  iteB (!x) (
  R (.tuple #[.int .i64 (0 : Int), .int .i64 (1 : Int)]) H1) (
  CallsH Try.prog n_heat_validPower #[.slice power.p power.n power.c, .int .i64 (domains.n : Int)] H1 (fun v1 H2 =>
  ∃ x1 : Bool, v1 = .bool x1 ∧ (
  iteB (!x1) (
  R (.tuple #[.int .i64 (0 : Int), .int .i64 (1 : Int)]) H2) (
  ∃ I_ : Int → Int → Heap → Prop, ∃ M_ : Int → Int → Heap → Nat, I_ (0 : Int) (0 : Int) H2 ∧ (∀ greatest : Int, ∀ x2 : Int, ∀ H3 : Heap, I_ greatest x2 H3 → F_heat_Bound_r1 R domains ambient power I_ M_ greatest x2 H3)))))))

theorem F_heat_Bound_eq (R : Value → Heap → Prop) (domains : Sl) (links : Sl) (ambient : Int) (power : Sl) (H : Heap) : wpF Try.prog Try.f27 [(10, .int .i64 0), (27, .int .i64 0)] [] [(5, [10, 27], [2, 3, 25, 26])] [26] [.slice domains.p domains.n domains.c, .slice links.p links.n links.c, .int .i64 ambient, .slice power.p power.n power.c] H R = F_heat_Bound R domains links ambient power H := by kernel_rfl

theorem F_heat_Bound_ok {R : Value → Heap → Prop} (domains : Sl) (links : Sl) (ambient : Int) (power : Sl) {H : Heap} (h : F_heat_Bound R domains links ambient power H) : CallsH Try.prog n_heat_Bound #[.slice domains.p domains.n domains.c, .slice links.p links.n links.c, .int .i64 ambient, .slice power.p power.n power.c] H R :=
  wpF_sound Try.func27 (Eq.mpr (F_heat_Bound_eq R domains links ambient power H) h)

/-! ### 28: platformfw/platformfwref38.Bound -/

def F_ref38_Bound_r1 (R : Value → Heap → Prop) (domains : Sl) (ambient : Int) (power : Sl) (I_ : Int → Int → Heap → Prop) (M_ : Int → Int → Heap → Nat) (most : Int) (i : Int) (H3 : Heap) : Prop :=
  iteB (decide (i < (domains.n : Int))) (
  0 ≤ i ∧ i < (power.n : Int) ∧ (unSome power.p (fun a =>
  ∃ x2 : Int, rd H3 (a.add (i.toNat * 1)) = some (.int .i64 x2) ∧ (
  0 ≤ i ∧ i < (domains.n : Int) ∧ (unSome domains.p (fun a1 =>
  ∃ x3 : Int, rd H3 ((a1.add (i.toNat * 2)).add 1) = some (.int .i64 x3) ∧ (
  0 ≤ i ∧ i < (domains.n : Int) ∧ (unSome domains.p (fun a2 =>
  ∃ x4 : Int, rd H3 ((a2.add (i.toNat * 2)).add 1) = some (.int .i64 x4) ∧ (
  x4 ≠ 0 ∧ (
  letV (if (IntKind.i64.wrap ((IntKind.i64.wrap ((IntKind.i64.wrap (x2 + x3)) - (1 : Int))).tdiv x4)) > most then (IntKind.i64.wrap ((IntKind.i64.wrap ((IntKind.i64.wrap (x2 + x3)) - (1 : Int))).tdiv x4)) else most) (fun most1 : Int =>
  letV (IntKind.i64.wrap (i + (1 : Int))) (fun i1 : Int =>
  I_ most1 i1 H3 ∧ M_ most1 i1 H3 < M_ most i H3))))))))))))) (
  letV (IntKind.i64.wrap (ambient + most)) (fun x5 : Int =>
  R (.tuple #[.int .i64 x5, .int .i64 (0 : Int)]) H3))

def F_ref38_Bound (R : Value → Heap → Prop) (domains : Sl) (links : Sl) (ambient : Int) (power : Sl) (H : Heap) : Prop :=
  CallsH Try.prog n_ref38_valid #[.slice domains.p domains.n domains.c, .slice links.p links.n links.c, .int .i64 ambient] H (fun v H1 =>
  ∃ x : Bool, v = .bool x ∧ (
  iteB (!x) (
  R (.tuple #[.int .i64 (0 : Int), .int .i64 (1 : Int)]) H1) (
  CallsH Try.prog n_ref38_powers #[.int .i64 (domains.n : Int), .slice power.p power.n power.c] H1 (fun v1 H2 =>
  ∃ x1 : Bool, v1 = .bool x1 ∧ (
  iteB (!x1) (
  R (.tuple #[.int .i64 (0 : Int), .int .i64 (1 : Int)]) H2) (
  ∃ I_ : Int → Int → Heap → Prop, ∃ M_ : Int → Int → Heap → Nat, I_ (0 : Int) (0 : Int) H2 ∧ (∀ most : Int, ∀ i : Int, ∀ H3 : Heap, I_ most i H3 → F_ref38_Bound_r1 R domains ambient power I_ M_ most i H3)))))))

theorem F_ref38_Bound_eq (R : Value → Heap → Prop) (domains : Sl) (links : Sl) (ambient : Int) (power : Sl) (H : Heap) : wpF Try.prog Try.f28 [(10, .int .i64 0), (11, .int .i64 0)] [] [(5, [10, 11], [0, 2, 3])] [26] [.slice domains.p domains.n domains.c, .slice links.p links.n links.c, .int .i64 ambient, .slice power.p power.n power.c] H R = F_ref38_Bound R domains links ambient power H := by kernel_rfl

theorem F_ref38_Bound_ok {R : Value → Heap → Prop} (domains : Sl) (links : Sl) (ambient : Int) (power : Sl) {H : Heap} (h : F_ref38_Bound R domains links ambient power H) : CallsH Try.prog n_ref38_Bound #[.slice domains.p domains.n domains.c, .slice links.p links.n links.c, .int .i64 ambient, .slice power.p power.n power.c] H R :=
  wpF_sound Try.func28 (Eq.mpr (F_ref38_Bound_eq R domains links ambient power H) h)

/-! ### 29: platformfw/heat.valid -/

def F_heat_valid_r1 (R : Value → Heap → Prop) (H : Heap) (domains : Sl) (I_2 : Int → Heap → Prop) (M_2 : Int → Heap → Nat) (x31 : Int) (H14 : Heap) : Prop :=
  iteB (decide (x31 < (domains.n : Int))) (
  0 ≤ x31 ∧ x31 < (domains.n : Int) ∧ (unSome domains.p (fun a2 =>
  ∃ x32 : Int, rd H14 (a2.add (x31.toNat * 2)) = some (.int .i64 x32) ∧ ∃ x33 : Int, rd H14 ((a2.add (x31.toNat * 2)).add 1) = some (.int .i64 x33) ∧ (
  letH (H14.push (.cells #[.int .i64 (0 : Int), .int .i64 (0 : Int)] t_api_HeatDomain (0, 0))) (fun H15 : Heap =>
  okRow H15 (⟨H14.size, 0, none⟩ : Addr) 2 ∧ (
  letH (wrs H15 (⟨H14.size, 0, none⟩ : Addr) [.int .i64 x32, .int .i64 x33]) (fun H16 : Heap =>
  ∃ x34 : Int, rd H16 (⟨H14.size, 0, none⟩ : Addr) = some (.int .i64 x34) ∧ (
  0 ≤ x31 ∧ x31 < ((domains.n : Int).toNat : Int) ∧ (∃ x35 : Int, rd H16 ((⟨H.size, 0, none⟩ : Addr).add (x31.toNat * 1)) = some (.int .i64 x35) ∧ (
  iteB (decide (x34 < x35)) (
  R (.bool false) H16) (
  ∃ x36 : Int, rd H16 (⟨H14.size, 0, none⟩ : Addr) = some (.int .i64 x36) ∧ (
  iteB (decide (x36 > (16777216 : Int))) (
  R (.bool false) H16) (
  I_2 (IntKind.i64.wrap (x31 + (1 : Int))) H16 ∧ M_2 (IntKind.i64.wrap (x31 + (1 : Int))) H16 < M_2 x31 H14))))))))))))) (
  R (.bool true) H14)

def F_heat_valid_r2 (R : Value → Heap → Prop) (H : Heap) (domains : Sl) (links : Sl) (H2 : Heap) (I_1 : Int → Heap → Prop) (M_1 : Int → Heap → Nat) (x6 : Int) (H7 : Heap) : Prop :=
  iteB (decide (x6 < (links.n : Int))) (
  0 ≤ x6 ∧ x6 < (links.n : Int) ∧ (unSome links.p (fun a1 =>
  ∃ x7 : Int, rd H7 (a1.add (x6.toNat * 3)) = some (.int .i64 x7) ∧ ∃ x8 : Int, rd H7 ((a1.add (x6.toNat * 3)).add 1) = some (.int .i64 x8) ∧ ∃ x9 : Int, rd H7 ((a1.add (x6.toNat * 3)).add 2) = some (.int .i64 x9) ∧ (
  letH (H7.push (.cells #[.int .i64 (0 : Int), .int .i64 (0 : Int), .int .i64 (0 : Int)] t_api_HeatLink (0, 0))) (fun H8 : Heap =>
  okRow H8 (⟨H7.size, 0, none⟩ : Addr) 3 ∧ (
  letH (wrs H8 (⟨H7.size, 0, none⟩ : Addr) [.int .i64 x7, .int .i64 x8, .int .i64 x9]) (fun H9 : Heap =>
  ∃ x10 : Int, rd H9 (⟨H7.size, 0, none⟩ : Addr) = some (.int .i64 x10) ∧ (
  iteB (decide (x10 < (0 : Int))) (
  R (.bool false) H9) (
  ∃ x11 : Int, rd H9 (⟨H7.size, 0, none⟩ : Addr) = some (.int .i64 x11) ∧ (
  iteB (decide (x11 ≥ (domains.n : Int))) (
  R (.bool false) H9) (
  ∃ x12 : Int, rd H9 ((⟨H7.size, 0, none⟩ : Addr).add 1) = some (.int .i64 x12) ∧ (
  iteB (decide (x12 < (0 : Int))) (
  R (.bool false) H9) (
  ∃ x13 : Int, rd H9 ((⟨H7.size, 0, none⟩ : Addr).add 1) = some (.int .i64 x13) ∧ (
  iteB (decide (x13 ≥ (domains.n : Int))) (
  R (.bool false) H9) (
  ∃ x14 : Int, rd H9 (⟨H7.size, 0, none⟩ : Addr) = some (.int .i64 x14) ∧ (
  ∃ x15 : Int, rd H9 ((⟨H7.size, 0, none⟩ : Addr).add 1) = some (.int .i64 x15) ∧ (
  iteB (x14 == x15) (
  R (.bool false) H9) (
  ∃ x16 : Int, rd H9 ((⟨H7.size, 0, none⟩ : Addr).add 2) = some (.int .i64 x16) ∧ (
  iteB (decide (x16 < (1 : Int))) (
  R (.bool false) H9) (
  ∃ x17 : Int, rd H9 ((⟨H7.size, 0, none⟩ : Addr).add 2) = some (.int .i64 x17) ∧ (
  iteB (decide (x17 > (16777216 : Int))) (
  R (.bool false) H9) (
  ∃ x18 : Int, rd H9 (⟨H7.size, 0, none⟩ : Addr) = some (.int .i64 x18) ∧ (
  ∃ x19 : Int, rd H9 ((⟨H7.size, 0, none⟩ : Addr).add 1) = some (.int .i64 x19) ∧ (
  0 ≤ x18 ∧ x18 < ((16 : Nat) : Int) ∧ (0 ≤ x19 ∧ x19 < ((16 : Nat) : Int) ∧ (∃ x20 : Bool, rd H9 (((⟨H2.size, 0, none⟩ : Addr).add (x18.toNat * 16)).add (x19.toNat * 1)) = some (.bool x20) ∧ (
  iteB x20 (
  R (.bool false) H9) (
  ∃ x21 : Int, rd H9 (⟨H7.size, 0, none⟩ : Addr) = some (.int .i64 x21) ∧ (
  ∃ x22 : Int, rd H9 ((⟨H7.size, 0, none⟩ : Addr).add 1) = some (.int .i64 x22) ∧ (
  0 ≤ x21 ∧ x21 < ((16 : Nat) : Int) ∧ (0 ≤ x22 ∧ x22 < ((16 : Nat) : Int) ∧ (okRow H9 (((⟨H2.size, 0, none⟩ : Addr).add (x21.toNat * 16)).add (x22.toNat * 1)) 1 ∧ (
  letH (wrs H9 (((⟨H2.size, 0, none⟩ : Addr).add (x21.toNat * 16)).add (x22.toNat * 1)) [.bool true]) (fun H10 : Heap =>
  ∃ x23 : Int, rd H10 ((⟨H7.size, 0, none⟩ : Addr).add 1) = some (.int .i64 x23) ∧ (
  ∃ x24 : Int, rd H10 (⟨H7.size, 0, none⟩ : Addr) = some (.int .i64 x24) ∧ (
  0 ≤ x23 ∧ x23 < ((16 : Nat) : Int) ∧ (0 ≤ x24 ∧ x24 < ((16 : Nat) : Int) ∧ (okRow H10 (((⟨H2.size, 0, none⟩ : Addr).add (x23.toNat * 16)).add (x24.toNat * 1)) 1 ∧ (
  letH (wrs H10 (((⟨H2.size, 0, none⟩ : Addr).add (x23.toNat * 16)).add (x24.toNat * 1)) [.bool true]) (fun H11 : Heap =>
  ∃ x25 : Int, rd H11 (⟨H7.size, 0, none⟩ : Addr) = some (.int .i64 x25) ∧ (
  0 ≤ x25 ∧ x25 < ((domains.n : Int).toNat : Int) ∧ (∃ x26 : Int, rd H11 ((⟨H.size, 0, none⟩ : Addr).add (x25.toNat * 1)) = some (.int .i64 x26) ∧ (
  ∃ x27 : Int, rd H11 ((⟨H7.size, 0, none⟩ : Addr).add 2) = some (.int .i64 x27) ∧ (
  0 ≤ x25 ∧ x25 < ((domains.n : Int).toNat : Int) ∧ (okRow H11 ((⟨H.size, 0, none⟩ : Addr).add (x25.toNat * 1)) 1 ∧ (
  letH (wrs H11 ((⟨H.size, 0, none⟩ : Addr).add (x25.toNat * 1)) [.int .i64 (IntKind.i64.wrap (x26 + x27))]) (fun H12 : Heap =>
  ∃ x28 : Int, rd H12 ((⟨H7.size, 0, none⟩ : Addr).add 1) = some (.int .i64 x28) ∧ (
  0 ≤ x28 ∧ x28 < ((domains.n : Int).toNat : Int) ∧ (∃ x29 : Int, rd H12 ((⟨H.size, 0, none⟩ : Addr).add (x28.toNat * 1)) = some (.int .i64 x29) ∧ (
  ∃ x30 : Int, rd H12 ((⟨H7.size, 0, none⟩ : Addr).add 2) = some (.int .i64 x30) ∧ (
  0 ≤ x28 ∧ x28 < ((domains.n : Int).toNat : Int) ∧ (okRow H12 ((⟨H.size, 0, none⟩ : Addr).add (x28.toNat * 1)) 1 ∧ (
  letH (wrs H12 ((⟨H.size, 0, none⟩ : Addr).add (x28.toNat * 1)) [.int .i64 (IntKind.i64.wrap (x29 + x30))]) (fun H13 : Heap =>
  I_1 (IntKind.i64.wrap (x6 + (1 : Int))) H13 ∧ M_1 (IntKind.i64.wrap (x6 + (1 : Int))) H13 < M_1 x6 H7)))))))))))))))))))))))))))))))))))))))))))))))))))))) (
  ∃ I_2 : Int → Heap → Prop, ∃ M_2 : Int → Heap → Nat, I_2 (0 : Int) H7 ∧ (∀ x31 : Int, ∀ H14 : Heap, I_2 x31 H14 → F_heat_valid_r1 R H domains I_2 M_2 x31 H14))

def F_heat_valid_r3 (R : Value → Heap → Prop) (H : Heap) (domains : Sl) (links : Sl) (I_ : Int → Heap → Prop) (M_ : Int → Heap → Nat) (x : Int) (H2 : Heap) : Prop :=
  iteB (decide (x < (domains.n : Int))) (
  0 ≤ x ∧ x < (domains.n : Int) ∧ (unSome domains.p (fun a =>
  ∃ x1 : Int, rd H2 (a.add (x.toNat * 2)) = some (.int .i64 x1) ∧ ∃ x2 : Int, rd H2 ((a.add (x.toNat * 2)).add 1) = some (.int .i64 x2) ∧ (
  letH (H2.push (.cells #[.int .i64 (0 : Int), .int .i64 (0 : Int)] t_api_HeatDomain (0, 0))) (fun H3 : Heap =>
  okRow H3 (⟨H2.size, 0, none⟩ : Addr) 2 ∧ (
  letH (wrs H3 (⟨H2.size, 0, none⟩ : Addr) [.int .i64 x1, .int .i64 x2]) (fun H4 : Heap =>
  ∃ x3 : Int, rd H4 ((⟨H2.size, 0, none⟩ : Addr).add 1) = some (.int .i64 x3) ∧ (
  iteB (decide (x3 < (1 : Int))) (
  R (.bool false) H4) (
  ∃ x4 : Int, rd H4 ((⟨H2.size, 0, none⟩ : Addr).add 1) = some (.int .i64 x4) ∧ (
  iteB (decide (x4 > (16777216 : Int))) (
  R (.bool false) H4) (
  ∃ x5 : Int, rd H4 ((⟨H2.size, 0, none⟩ : Addr).add 1) = some (.int .i64 x5) ∧ (
  0 ≤ x ∧ x < ((domains.n : Int).toNat : Int) ∧ (okRow H4 ((⟨H.size, 0, none⟩ : Addr).add (x.toNat * 1)) 1 ∧ (
  letH (wrs H4 ((⟨H.size, 0, none⟩ : Addr).add (x.toNat * 1)) [.int .i64 x5]) (fun H5 : Heap =>
  I_ (IntKind.i64.wrap (x + (1 : Int))) H5 ∧ M_ (IntKind.i64.wrap (x + (1 : Int))) H5 < M_ x H2))))))))))))))) (
  letH (H2.push (.cells #[.bool false, .bool false, .bool false, .bool false, .bool false, .bool false, .bool false, .bool false, .bool false, .bool false, .bool false, .bool false, .bool false, .bool false, .bool false, .bool false, .bool false, .bool false, .bool false, .bool false, .bool false, .bool false, .bool false, .bool false, .bool false, .bool false, .bool false, .bool false, .bool false, .bool false, .bool false, .bool false, .bool false, .bool false, .bool false, .bool false, .bool false, .bool false, .bool false, .bool false, .bool false, .bool false, .bool false, .bool false, .bool false, .bool false, .bool false, .bool false, .bool false, .bool false, .bool false, .bool false, .bool false, .bool false, .bool false, .bool false, .bool false, .bool false, .bool false, .bool false, .bool false, .bool false, .bool false, .bool false, .bool false, .bool false, .bool false, .bool false, .bool false, .bool false, .bool false, .bool false, .bool false, .bool false, .bool false, .bool false, .bool false, .bool false, .bool false, .bool false, .bool false, .bool false, .bool false, .bool false, .bool false, .bool false, .bool false, .bool false, .bool false, .bool false, .bool false, .bool false, .bool false, .bool false, .bool false, .bool false, .bool false, .bool false, .bool false, .bool false, .bool false, .bool false, .bool false, .bool false, .bool false, .bool false, .bool false, .bool false, .bool false, .bool false, .bool false, .bool false, .bool false, .bool false, .bool false, .bool false, .bool false, .bool false, .bool false, .bool false, .bool false, .bool false, .bool false, .bool false, .bool false, .bool false, .bool false, .bool false, .bool false, .bool false, .bool false, .bool false, .bool false, .bool false, .bool false, .bool false, .bool false, .bool false, .bool false, .bool false, .bool false, .bool false, .bool false, .bool false, .bool false, .bool false, .bool false, .bool false, .bool false, .bool false, .bool false, .bool false, .bool false, .bool false, .bool false, .bool false, .bool false, .bool false, .bool false, .bool false, .bool false, .bool false, .bool false, .bool false, .bool false, .bool false, .bool false, .bool false, .bool false, .bool false, .bool false, .bool false, .bool false, .bool false, .bool false, .bool false, .bool false, .bool false, .bool false, .bool false, .bool false, .bool false, .bool false, .bool false, .bool false, .bool false, .bool false, .bool false, .bool false, .bool false, .bool false, .bool false, .bool false, .bool false, .bool false, .bool false, .bool false, .bool false, .bool false, .bool false, .bool false, .bool false, .bool false, .bool false, .bool false, .bool false, .bool false, .bool false, .bool false, .bool false, .bool false, .bool false, .bool false, .bool false, .bool false, .bool false, .bool false, .bool false, .bool false, .bool false, .bool false, .bool false, .bool false, .bool false, .bool false, .bool false, .bool false, .bool false, .bool false, .bool false, .bool false, .bool false, .bool false, .bool false, .bool false, .bool false, .bool false, .bool false, .bool false, .bool false, .bool false, .bool false, .bool false, .bool false, .bool false, .bool false, .bool false, .bool false, .bool false, .bool false, .bool false, .bool false, .bool false, .bool false, .bool false, .bool false] t_16_16_bool (0, 0))) (fun H6 : Heap =>
  ∃ I_1 : Int → Heap → Prop, ∃ M_1 : Int → Heap → Nat, I_1 (0 : Int) H6 ∧ (∀ x6 : Int, ∀ H7 : Heap, I_1 x6 H7 → F_heat_valid_r2 R H domains links H2 I_1 M_1 x6 H7)))

def F_heat_valid (R : Value → Heap → Prop) (domains : Sl) (links : Sl) (ambient : Int) (H : Heap) : Prop :=
  iteB (decide ((domains.n : Int) < (1 : Int))) (
  R (.bool false) H) (
  iteB (decide ((domains.n : Int) > (16 : Int))) (
  R (.bool false) H) (
  iteB (decide (ambient < (-16777216 : Int))) (
  R (.bool false) H) (
  iteB (decide (ambient > (16777216 : Int))) (
  R (.bool false) H) (
  0 ≤ (domains.n : Int) ∧ (domains.n : Int) ≤ (domains.n : Int) ∧ (domains.n : Int) * ((8 : Nat) : Int) ≤ 281474976710656 ∧ (
  letH (H.push (.cells (zeroRow (.int .i64 (0 : Int)) (domains.n : Int).toNat) t_int64 (0, 0))) (fun H1 : Heap =>
  ∃ I_ : Int → Heap → Prop, ∃ M_ : Int → Heap → Nat, I_ (0 : Int) H1 ∧ (∀ x : Int, ∀ H2 : Heap, I_ x H2 → F_heat_valid_r3 R H domains links I_ M_ x H2)))))))

theorem F_heat_valid_eq (R : Value → Heap → Prop) (domains : Sl) (links : Sl) (ambient : Int) (H : Heap) : wpF Try.prog Try.f29 [(36, .int .i64 0), (57, .int .i64 0), (140, .int .i64 0)] [] [(5, [36], [0, 1, 7, 34, 35]), (13, [57], [0, 7, 10, 55, 56]), (25, [140], [7, 138, 139])] [26] [.slice domains.p domains.n domains.c, .slice links.p links.n links.c, .int .i64 ambient] H R = F_heat_valid R domains links ambient H := by kernel_rfl

theorem F_heat_valid_ok {R : Value → Heap → Prop} (domains : Sl) (links : Sl) (ambient : Int) {H : Heap} (h : F_heat_valid R domains links ambient H) : CallsH Try.prog n_heat_valid #[.slice domains.p domains.n domains.c, .slice links.p links.n links.c, .int .i64 ambient] H R :=
  wpF_sound Try.func29 (Eq.mpr (F_heat_valid_eq R domains links ambient H) h)

/-! ### 30: slices.Clone[[]platformfw/api.HeatDomain,platformfw/api.HeatDomain] -/

def F_slices_Clone_sl_api_HeatDomain_api_HeatDomain (R : Value → Heap → Prop) (s : Sl) (H : Heap) : Prop :=
  iteB s.p.isNone (
  R (.slice none 0 0) H) (
  letH (H.push (.cells #[] t_api_HeatDomain (0, 0))) (fun H1 : Heap =>
  runH Try.prog (Builtin.append_ #[t_sl_api_HeatDomain, t_sl_api_HeatDomain] t_sl_api_HeatDomain #[.slice (some (⟨H.size, 0, none⟩ : Addr)) 0 0, .slice s.p s.n s.c]) H1 (fun v H2 =>
  ∃ x : Sl, v = .slice x.p x.n x.c ∧ (
  R (.slice x.p x.n x.c) H2))))

theorem F_slices_Clone_sl_api_HeatDomain_api_HeatDomain_eq (R : Value → Heap → Prop) (s : Sl) (H : Heap) : wpF Try.prog Try.f30 [] [] [] [26] [.slice s.p s.n s.c] H R = F_slices_Clone_sl_api_HeatDomain_api_HeatDomain R s H := by kernel_rfl

theorem F_slices_Clone_sl_api_HeatDomain_api_HeatDomain_ok {R : Value → Heap → Prop} (s : Sl) {H : Heap} (h : F_slices_Clone_sl_api_HeatDomain_api_HeatDomain R s H) : CallsH Try.prog n_slices_Clone_sl_api_HeatDomain_api_HeatDomain #[.slice s.p s.n s.c] H R :=
  wpF_sound Try.func30 (Eq.mpr (F_slices_Clone_sl_api_HeatDomain_api_HeatDomain_eq R s H) h)

/-! ### 31: slices.Clone[[]platformfw/api.HeatLink,platformfw/api.HeatLink] -/

def F_slices_Clone_sl_api_HeatLink_api_HeatLink (R : Value → Heap → Prop) (s : Sl) (H : Heap) : Prop :=
  iteB s.p.isNone (
  R (.slice none 0 0) H) (
  letH (H.push (.cells #[] t_api_HeatLink (0, 0))) (fun H1 : Heap =>
  runH Try.prog (Builtin.append_ #[t_sl_api_HeatLink, t_sl_api_HeatLink] t_sl_api_HeatLink #[.slice (some (⟨H.size, 0, none⟩ : Addr)) 0 0, .slice s.p s.n s.c]) H1 (fun v H2 =>
  ∃ x : Sl, v = .slice x.p x.n x.c ∧ (
  R (.slice x.p x.n x.c) H2))))

theorem F_slices_Clone_sl_api_HeatLink_api_HeatLink_eq (R : Value → Heap → Prop) (s : Sl) (H : Heap) : wpF Try.prog Try.f31 [] [] [] [26] [.slice s.p s.n s.c] H R = F_slices_Clone_sl_api_HeatLink_api_HeatLink R s H := by kernel_rfl

theorem F_slices_Clone_sl_api_HeatLink_api_HeatLink_ok {R : Value → Heap → Prop} (s : Sl) {H : Heap} (h : F_slices_Clone_sl_api_HeatLink_api_HeatLink R s H) : CallsH Try.prog n_slices_Clone_sl_api_HeatLink_api_HeatLink #[.slice s.p s.n s.c] H R :=
  wpF_sound Try.func31 (Eq.mpr (F_slices_Clone_sl_api_HeatLink_api_HeatLink_eq R s H) h)

/-! ### 32: platformfw/platformfwref38.valid -/

def F_ref38_valid_r1 (R : Value → Heap → Prop) (links : Sl) (I_1 : Int → Heap → Prop) (M_1 : Int → Heap → Nat) (i2 : Int) (H6 : Heap) (I_2 : Int → Heap → Prop) (M_2 : Int → Heap → Nat) (k : Int) (H11 : Heap) : Prop :=
  iteB (decide (k < i2)) (
  0 ≤ k ∧ k < (links.n : Int) ∧ (unSome links.p (fun a2 =>
  ∃ x32 : Int, rd H11 (a2.add (k.toNat * 3)) = some (.int .i64 x32) ∧ (
  ∃ x33 : Int, rd H11 (⟨H6.size, 0, none⟩ : Addr) = some (.int .i64 x33) ∧ (
  iteB (x32 == x33) (
  0 ≤ k ∧ k < (links.n : Int) ∧ (unSome links.p (fun a3 =>
  ∃ x34 : Int, rd H11 ((a3.add (k.toNat * 3)).add 1) = some (.int .i64 x34) ∧ (
  ∃ x35 : Int, rd H11 ((⟨H6.size, 0, none⟩ : Addr).add 1) = some (.int .i64 x35) ∧ (
  iteB (x34 == x35) (
  R (.bool false) H11) (
  0 ≤ k ∧ k < (links.n : Int) ∧ (unSome links.p (fun a4 =>
  ∃ x36 : Int, rd H11 (a4.add (k.toNat * 3)) = some (.int .i64 x36) ∧ (
  ∃ x37 : Int, rd H11 ((⟨H6.size, 0, none⟩ : Addr).add 1) = some (.int .i64 x37) ∧ (
  iteB (x36 == x37) (
  0 ≤ k ∧ k < (links.n : Int) ∧ (unSome links.p (fun a5 =>
  ∃ x38 : Int, rd H11 ((a5.add (k.toNat * 3)).add 1) = some (.int .i64 x38) ∧ (
  ∃ x39 : Int, rd H11 (⟨H6.size, 0, none⟩ : Addr) = some (.int .i64 x39) ∧ (
  iteB (x38 == x39) (
  R (.bool false) H11) (
  letV (IntKind.i64.wrap (k + (1 : Int))) (fun k1 : Int =>
  I_2 k1 H11 ∧ M_2 k1 H11 < M_2 k H11))))))) (
  letV (IntKind.i64.wrap (k + (1 : Int))) (fun k2 : Int =>
  I_2 k2 H11 ∧ M_2 k2 H11 < M_2 k H11)))))))))))) (
  0 ≤ k ∧ k < (links.n : Int) ∧ (unSome links.p (fun a6 =>
  ∃ x40 : Int, rd H11 (a6.add (k.toNat * 3)) = some (.int .i64 x40) ∧ (
  ∃ x41 : Int, rd H11 ((⟨H6.size, 0, none⟩ : Addr).add 1) = some (.int .i64 x41) ∧ (
  iteB (x40 == x41) (
  0 ≤ k ∧ k < (links.n : Int) ∧ (unSome links.p (fun a7 =>
  ∃ x42 : Int, rd H11 ((a7.add (k.toNat * 3)).add 1) = some (.int .i64 x42) ∧ (
  ∃ x43 : Int, rd H11 (⟨H6.size, 0, none⟩ : Addr) = some (.int .i64 x43) ∧ (
  iteB (x42 == x43) (
  R (.bool false) H11) (
  letV (IntKind.i64.wrap (k + (1 : Int))) (fun k3 : Int =>
  I_2 k3 H11 ∧ M_2 k3 H11 < M_2 k H11))))))) (
  letV (IntKind.i64.wrap (k + (1 : Int))) (fun k4 : Int =>
  I_2 k4 H11 ∧ M_2 k4 H11 < M_2 k H11)))))))))))) (
  letV (IntKind.i64.wrap (i2 + (1 : Int))) (fun i3 : Int =>
  I_1 i3 H11 ∧ M_1 i3 H11 < M_1 i2 H6))

def F_ref38_valid_r2 (R : Value → Heap → Prop) (H : Heap) (domains : Sl) (links : Sl) (I_1 : Int → Heap → Prop) (M_1 : Int → Heap → Nat) (i2 : Int) (H6 : Heap) : Prop :=
  iteB (decide (i2 < (links.n : Int))) (
  0 ≤ i2 ∧ i2 < (links.n : Int) ∧ (unSome links.p (fun a1 =>
  ∃ x8 : Int, rd H6 (a1.add (i2.toNat * 3)) = some (.int .i64 x8) ∧ ∃ x9 : Int, rd H6 ((a1.add (i2.toNat * 3)).add 1) = some (.int .i64 x9) ∧ ∃ x10 : Int, rd H6 ((a1.add (i2.toNat * 3)).add 2) = some (.int .i64 x10) ∧ (
  letH (H6.push (.cells #[.int .i64 (0 : Int), .int .i64 (0 : Int), .int .i64 (0 : Int)] t_api_HeatLink (0, 0))) (fun H7 : Heap =>
  okRow H7 (⟨H6.size, 0, none⟩ : Addr) 3 ∧ (
  letH (wrs H7 (⟨H6.size, 0, none⟩ : Addr) [.int .i64 x8, .int .i64 x9, .int .i64 x10]) (fun H8 : Heap =>
  ∃ x11 : Int, rd H8 (⟨H6.size, 0, none⟩ : Addr) = some (.int .i64 x11) ∧ (
  iteB (decide (x11 < (0 : Int))) (
  R (.bool false) H8) (
  ∃ x12 : Int, rd H8 (⟨H6.size, 0, none⟩ : Addr) = some (.int .i64 x12) ∧ (
  iteB (decide (x12 ≥ (domains.n : Int))) (
  R (.bool false) H8) (
  ∃ x13 : Int, rd H8 ((⟨H6.size, 0, none⟩ : Addr).add 1) = some (.int .i64 x13) ∧ (
  iteB (decide (x13 < (0 : Int))) (
  R (.bool false) H8) (
  ∃ x14 : Int, rd H8 ((⟨H6.size, 0, none⟩ : Addr).add 1) = some (.int .i64 x14) ∧ (
  iteB (decide (x14 ≥ (domains.n : Int))) (
  R (.bool false) H8) (
  ∃ x15 : Int, rd H8 (⟨H6.size, 0, none⟩ : Addr) = some (.int .i64 x15) ∧ (
  ∃ x16 : Int, rd H8 ((⟨H6.size, 0, none⟩ : Addr).add 1) = some (.int .i64 x16) ∧ (
  iteB (x15 == x16) (
  R (.bool false) H8) (
  ∃ x17 : Int, rd H8 ((⟨H6.size, 0, none⟩ : Addr).add 2) = some (.int .i64 x17) ∧ (
  iteB (decide (x17 < (1 : Int))) (
  R (.bool false) H8) (
  ∃ x18 : Int, rd H8 ((⟨H6.size, 0, none⟩ : Addr).add 2) = some (.int .i64 x18) ∧ (
  ∃ x19 : Int, rd H8 (⟨H6.size, 0, none⟩ : Addr) = some (.int .i64 x19) ∧ (
  0 ≤ x19 ∧ x19 < ((domains.n : Int).toNat : Int) ∧ (∃ x20 : Int, rd H8 ((⟨H.size, 0, none⟩ : Addr).add (x19.toNat * 1)) = some (.int .i64 x20) ∧ (
  iteB (decide (x18 > x20)) (
  R (.bool false) H8) (
  ∃ x21 : Int, rd H8 ((⟨H6.size, 0, none⟩ : Addr).add 2) = some (.int .i64 x21) ∧ (
  ∃ x22 : Int, rd H8 ((⟨H6.size, 0, none⟩ : Addr).add 1) = some (.int .i64 x22) ∧ (
  0 ≤ x22 ∧ x22 < ((domains.n : Int).toNat : Int) ∧ (∃ x23 : Int, rd H8 ((⟨H.size, 0, none⟩ : Addr).add (x22.toNat * 1)) = some (.int .i64 x23) ∧ (
  iteB (decide (x21 > x23)) (
  R (.bool false) H8) (
  ∃ x24 : Int, rd H8 (⟨H6.size, 0, none⟩ : Addr) = some (.int .i64 x24) ∧ (
  ∃ x25 : Int, rd H8 (⟨H6.size, 0, none⟩ : Addr) = some (.int .i64 x25) ∧ (
  0 ≤ x25 ∧ x25 < ((domains.n : Int).toNat : Int) ∧ (∃ x26 : Int, rd H8 ((⟨H.size, 0, none⟩ : Addr).add (x25.toNat * 1)) = some (.int .i64 x26) ∧ (
  ∃ x27 : Int, rd H8 ((⟨H6.size, 0, none⟩ : Addr).add 2) = some (.int .i64 x27) ∧ (
  0 ≤ x24 ∧ x24 < ((domains.n : Int).toNat : Int) ∧ (okRow H8 ((⟨H.size, 0, none⟩ : Addr).add (x24.toNat * 1)) 1 ∧ (
  letH (wrs H8 ((⟨H.size, 0, none⟩ : Addr).add (x24.toNat * 1)) [.int .i64 (IntKind.i64.wrap (x26 - x27))]) (fun H9 : Heap =>
  ∃ x28 : Int, rd H9 ((⟨H6.size, 0, none⟩ : Addr).add 1) = some (.int .i64 x28) ∧ (
  ∃ x29 : Int, rd H9 ((⟨H6.size, 0, none⟩ : Addr).add 1) = some (.int .i64 x29) ∧ (
  0 ≤ x29 ∧ x29 < ((domains.n : Int).toNat : Int) ∧ (∃ x30 : Int, rd H9 ((⟨H.size, 0, none⟩ : Addr).add (x29.toNat * 1)) = some (.int .i64 x30) ∧ (
  ∃ x31 : Int, rd H9 ((⟨H6.size, 0, none⟩ : Addr).add 2) = some (.int .i64 x31) ∧ (
  0 ≤ x28 ∧ x28 < ((domains.n : Int).toNat : Int) ∧ (okRow H9 ((⟨H.size, 0, none⟩ : Addr).add (x28.toNat * 1)) 1 ∧ (
  letH (wrs H9 ((⟨H.size, 0, none⟩ : Addr).add (x28.toNat * 1)) [.int .i64 (IntKind.i64.wrap (x30 - x31))]) (fun H10 : Heap =>
  ∃ I_2 : Int → Heap → Prop, ∃ M_2 : Int → Heap → Nat, I_2 (0 : Int) H10 ∧ (∀ k : Int, ∀ H11 : Heap, I_2 k H11 → F_ref38_valid_r1 R links I_1 M_1 i2 H6 I_2 M_2 k H11))))))))))))))))))))))))))))))))))))))))))))))) (
  R (.bool true) H6)

def F_ref38_valid_r3 (R : Value → Heap → Prop) (H : Heap) (domains : Sl) (links : Sl) (I_ : Int → Heap → Prop) (M_ : Int → Heap → Nat) (i : Int) (H2 : Heap) : Prop :=
  iteB (decide (i < (domains.n : Int))) (
  0 ≤ i ∧ i < (domains.n : Int) ∧ (unSome domains.p (fun a =>
  ∃ x : Int, rd H2 (a.add (i.toNat * 2)) = some (.int .i64 x) ∧ ∃ x1 : Int, rd H2 ((a.add (i.toNat * 2)).add 1) = some (.int .i64 x1) ∧ (
  letH (H2.push (.cells #[.int .i64 (0 : Int), .int .i64 (0 : Int)] t_api_HeatDomain (0, 0))) (fun H3 : Heap =>
  okRow H3 (⟨H2.size, 0, none⟩ : Addr) 2 ∧ (
  letH (wrs H3 (⟨H2.size, 0, none⟩ : Addr) [.int .i64 x, .int .i64 x1]) (fun H4 : Heap =>
  ∃ x2 : Int, rd H4 ((⟨H2.size, 0, none⟩ : Addr).add 1) = some (.int .i64 x2) ∧ (
  iteB (decide (x2 < (1 : Int))) (
  R (.bool false) H4) (
  ∃ x3 : Int, rd H4 (⟨H2.size, 0, none⟩ : Addr) = some (.int .i64 x3) ∧ (
  iteB (decide (x3 > (16777216 : Int))) (
  R (.bool false) H4) (
  ∃ x4 : Int, rd H4 (⟨H2.size, 0, none⟩ : Addr) = some (.int .i64 x4) ∧ (
  ∃ x5 : Int, rd H4 ((⟨H2.size, 0, none⟩ : Addr).add 1) = some (.int .i64 x5) ∧ (
  iteB (decide (x4 < x5)) (
  R (.bool false) H4) (
  ∃ x6 : Int, rd H4 (⟨H2.size, 0, none⟩ : Addr) = some (.int .i64 x6) ∧ (
  ∃ x7 : Int, rd H4 ((⟨H2.size, 0, none⟩ : Addr).add 1) = some (.int .i64 x7) ∧ (
  0 ≤ i ∧ i < ((domains.n : Int).toNat : Int) ∧ (okRow H4 ((⟨H.size, 0, none⟩ : Addr).add (i.toNat * 1)) 1 ∧ (
  letH (wrs H4 ((⟨H.size, 0, none⟩ : Addr).add (i.toNat * 1)) [.int .i64 (IntKind.i64.wrap (x6 - x7))]) (fun H5 : Heap =>
  letV (IntKind.i64.wrap (i + (1 : Int))) (fun i1 : Int =>
  I_ i1 H5 ∧ M_ i1 H5 < M_ i H2)))))))))))))))))))) (
  ∃ I_1 : Int → Heap → Prop, ∃ M_1 : Int → Heap → Nat, I_1 (0 : Int) H2 ∧ (∀ i2 : Int, ∀ H6 : Heap, I_1 i2 H6 → F_ref38_valid_r2 R H domains links I_1 M_1 i2 H6))

def F_ref38_valid (R : Value → Heap → Prop) (domains : Sl) (links : Sl) (ambient : Int) (H : Heap) : Prop :=
  iteB (decide ((domains.n : Int) < (1 : Int))) (
  R (.bool false) H) (
  iteB (decide ((domains.n : Int) > (16 : Int))) (
  R (.bool false) H) (
  iteB (decide (ambient < (-16777216 : Int))) (
  R (.bool false) H) (
  iteB (decide (ambient > (16777216 : Int))) (
  R (.bool false) H) (
  0 ≤ (domains.n : Int) ∧ (domains.n : Int) ≤ (domains.n : Int) ∧ (domains.n : Int) * ((8 : Nat) : Int) ≤ 281474976710656 ∧ (
  letH (H.push (.cells (zeroRow (.int .i64 (0 : Int)) (domains.n : Int).toNat) t_int64 (0, 0))) (fun H1 : Heap =>
  ∃ I_ : Int → Heap → Prop, ∃ M_ : Int → Heap → Nat, I_ (0 : Int) H1 ∧ (∀ i : Int, ∀ H2 : Heap, I_ i H2 → F_ref38_valid_r3 R H domains links I_ M_ i H2)))))))

theorem F_ref38_valid_eq (R : Value → Heap → Prop) (domains : Sl) (links : Sl) (ambient : Int) (H : Heap) : wpF Try.prog Try.f32 [(8, .int .i64 0), (10, .int .i64 0), (12, .int .i64 0)] [] [(5, [8], [0, 1, 7]), (12, [10], [0, 1, 7]), (20, [12], [0, 1, 7, 10, 11])] [26] [.slice domains.p domains.n domains.c, .slice links.p links.n links.c, .int .i64 ambient] H R = F_ref38_valid R domains links ambient H := by kernel_rfl

theorem F_ref38_valid_ok {R : Value → Heap → Prop} (domains : Sl) (links : Sl) (ambient : Int) {H : Heap} (h : F_ref38_valid R domains links ambient H) : CallsH Try.prog n_ref38_valid #[.slice domains.p domains.n domains.c, .slice links.p links.n links.c, .int .i64 ambient] H R :=
  wpF_sound Try.func32 (Eq.mpr (F_ref38_valid_eq R domains links ambient H) h)

/-! ### 33: platformfw/heat.validPower -/

def F_heat_validPower_r1 (R : Value → Heap → Prop) (power : Sl) (I_ : Int → Heap → Prop) (M_ : Int → Heap → Nat) (x : Int) (H1 : Heap) : Prop :=
  iteB (decide (x < (power.n : Int))) (
  0 ≤ x ∧ x < (power.n : Int) ∧ (unSome power.p (fun a =>
  ∃ p : Int, rd H1 (a.add (x.toNat * 1)) = some (.int .i64 p) ∧ (
  iteB (decide (p < (0 : Int))) (
  R (.bool false) H1) (
  iteB (decide (p > (16777216 : Int))) (
  R (.bool false) H1) (
  I_ (IntKind.i64.wrap (x + (1 : Int))) H1 ∧ M_ (IntKind.i64.wrap (x + (1 : Int))) H1 < M_ x H1)))))) (
  R (.bool true) H1)

def F_heat_validPower (R : Value → Heap → Prop) (power : Sl) (domains : Int) (H : Heap) : Prop :=
  iteB ((power.n : Int) != domains) (
  R (.bool false) H) (
  ∃ I_ : Int → Heap → Prop, ∃ M_ : Int → Heap → Nat, I_ (0 : Int) H ∧ (∀ x : Int, ∀ H1 : Heap, I_ x H1 → F_heat_validPower_r1 R power I_ M_ x H1))

theorem F_heat_validPower_eq (R : Value → Heap → Prop) (power : Sl) (domains : Int) (H : Heap) : wpF Try.prog Try.f33 [(13, .int .i64 0)] [] [(4, [13], [11, 12])] [26] [.slice power.p power.n power.c, .int .i64 domains] H R = F_heat_validPower R power domains H := by kernel_rfl

theorem F_heat_validPower_ok {R : Value → Heap → Prop} (power : Sl) (domains : Int) {H : Heap} (h : F_heat_validPower R power domains H) : CallsH Try.prog n_heat_validPower #[.slice power.p power.n power.c, .int .i64 domains] H R :=
  wpF_sound Try.func33 (Eq.mpr (F_heat_validPower_eq R power domains H) h)

/-! ### 34: (*platformfw/heat.Model).temperatures -/

def F_heat_Model_temperatures_r1 (R : Value → Heap → Prop) (H : Heap) (m : Addr) (x : Sl) (I_ : Int → Heap → Prop) (M_ : Int → Heap → Nat) (x1 : Int) (H2 : Heap) : Prop :=
  iteB (decide (x1 < ((x.n : Int).toNat : Int))) (
  CallsH Try.prog n_heat_Model_Temperature #[.pointer (some m), .int .i64 x1] H2 (fun v H3 =>
  ∃ x2 : Int, v = .int .i64 x2 ∧ (
  0 ≤ x1 ∧ x1 < ((x.n : Int).toNat : Int) ∧ (okRow H3 ((⟨H.size, 0, none⟩ : Addr).add (x1.toNat * 1)) 1 ∧ (
  letH (wrs H3 ((⟨H.size, 0, none⟩ : Addr).add (x1.toNat * 1)) [.int .i64 x2]) (fun H4 : Heap =>
  I_ (IntKind.i64.wrap (x1 + (1 : Int))) H4 ∧ M_ (IntKind.i64.wrap (x1 + (1 : Int))) H4 < M_ x1 H2)))))) (
  R (.slice (some (⟨H.size, 0, none⟩ : Addr)) ((x.n : Int).toNat) ((x.n : Int).toNat)) H2)

def F_heat_Model_temperatures (R : Value → Heap → Prop) (m : Addr) (H : Heap) : Prop :=
  ∃ x : Sl, rd H m = some (.slice x.p x.n x.c) ∧ (
  0 ≤ (x.n : Int) ∧ (x.n : Int) ≤ (x.n : Int) ∧ (x.n : Int) * ((8 : Nat) : Int) ≤ 281474976710656 ∧ (
  letH (H.push (.cells (zeroRow (.int .i64 (0 : Int)) (x.n : Int).toNat) t_int64 (0, 0))) (fun H1 : Heap =>
  ∃ I_ : Int → Heap → Prop, ∃ M_ : Int → Heap → Nat, I_ (0 : Int) H1 ∧ (∀ x1 : Int, ∀ H2 : Heap, I_ x1 H2 → F_heat_Model_temperatures_r1 R H m x I_ M_ x1 H2))))

theorem F_heat_Model_temperatures_eq (R : Value → Heap → Prop) (m : Addr) (H : Heap) : wpF Try.prog Try.f34 [(13, .int .i64 0)] [] [(3, [13], [0, 3, 12])] [26] [.pointer (some m)] H R = F_heat_Model_temperatures R m H := by kernel_rfl

theorem F_heat_Model_temperatures_ok {R : Value → Heap → Prop} (m : Addr) {H : Heap} (h : F_heat_Model_temperatures R m H) : CallsH Try.prog n_heat_Model_temperatures #[.pointer (some m)] H R :=
  wpF_sound Try.func34 (Eq.mpr (F_heat_Model_temperatures_eq R m H) h)

/-! ### 35: platformfw/platformfwref38.powers -/

def F_ref38_powers_r1 (R : Value → Heap → Prop) (n : Int) (power : Sl) (I_ : Int → Heap → Prop) (M_ : Int → Heap → Nat) (i : Int) (H1 : Heap) : Prop :=
  iteB (decide (i < n)) (
  0 ≤ i ∧ i < (power.n : Int) ∧ (unSome power.p (fun a =>
  ∃ x : Int, rd H1 (a.add (i.toNat * 1)) = some (.int .i64 x) ∧ (
  iteB (decide (x < (0 : Int))) (
  R (.bool false) H1) (
  0 ≤ i ∧ i < (power.n : Int) ∧ (unSome power.p (fun a1 =>
  ∃ x1 : Int, rd H1 (a1.add (i.toNat * 1)) = some (.int .i64 x1) ∧ (
  iteB (decide (x1 > (16777216 : Int))) (
  R (.bool false) H1) (
  letV (IntKind.i64.wrap (i + (1 : Int))) (fun i1 : Int =>
  I_ i1 H1 ∧ M_ i1 H1 < M_ i H1)))))))))) (
  R (.bool true) H1)

def F_ref38_powers (R : Value → Heap → Prop) (n : Int) (power : Sl) (H : Heap) : Prop :=
  iteB ((power.n : Int) != n) (
  R (.bool false) H) (
  ∃ I_ : Int → Heap → Prop, ∃ M_ : Int → Heap → Nat, I_ (0 : Int) H ∧ (∀ i : Int, ∀ H1 : Heap, I_ i H1 → F_ref38_powers_r1 R n power I_ M_ i H1))

theorem F_ref38_powers_eq (R : Value → Heap → Prop) (n : Int) (power : Sl) (H : Heap) : wpF Try.prog Try.f35 [(5, .int .i64 0)] [] [(4, [5], [0, 1])] [26] [.int .i64 n, .slice power.p power.n power.c] H R = F_ref38_powers R n power H := by kernel_rfl

theorem F_ref38_powers_ok {R : Value → Heap → Prop} (n : Int) (power : Sl) {H : Heap} (h : F_ref38_powers R n power H) : CallsH Try.prog n_ref38_powers #[.int .i64 n, .slice power.p power.n power.c] H R :=
  wpF_sound Try.func35 (Eq.mpr (F_ref38_powers_eq R n power H) h)

/-! ### 36: (*platformfw/platformfwref38.Model).temperatures -/

def F_ref38_Model_temperatures_r1 (R : Value → Heap → Prop) (m : Addr) (I_ : Sl → Int → Heap → Prop) (M_ : Sl → Int → Heap → Nat) (t : Sl) (i : Int) (H1 : Heap) : Prop :=
  ∃ x : Sl, rd H1 m = some (.slice x.p x.n x.c) ∧ (
  iteB (decide (i < (x.n : Int))) (
  CallsH Try.prog n_ref38_Model_Temperature #[.pointer (some m), .int .i64 i] H1 (fun v H2 =>
  ∃ x1 : Int, v = .int .i64 x1 ∧ (
  letH (H2.push (.cells #[.int .i64 x1] t_int64 (0, 0))) (fun H3 : Heap =>
  runH Try.prog (Builtin.append_ #[t_sl_int64, t_sl_int64] t_sl_int64 #[.slice t.p t.n t.c, .slice (some (⟨H2.size, 0, none⟩ : Addr)) 1 1]) H3 (fun v1 H4 =>
  ∃ t1 : Sl, v1 = .slice t1.p t1.n t1.c ∧ (
  letV (IntKind.i64.wrap (i + (1 : Int))) (fun i1 : Int =>
  I_ t1 i1 H4 ∧ M_ t1 i1 H4 < M_ t i H1))))))) (
  R (.slice t.p t.n t.c) H1))

def F_ref38_Model_temperatures (R : Value → Heap → Prop) (m : Addr) (H : Heap) : Prop :=
  ∃ I_ : Sl → Int → Heap → Prop, ∃ M_ : Sl → Int → Heap → Nat, I_ (Sl.mk none 0 0) (0 : Int) H ∧ (∀ t : Sl, ∀ i : Int, ∀ H1 : Heap, I_ t i H1 → F_ref38_Model_temperatures_r1 R m I_ M_ t i H1)

theorem F_ref38_Model_temperatures_eq (R : Value → Heap → Prop) (m : Addr) (H : Heap) : wpF Try.prog Try.f36 [(3, .slice none 0 0), (4, .int .i64 0)] [] [(3, [3, 4], [0])] [26] [.pointer (some m)] H R = F_ref38_Model_temperatures R m H := by kernel_rfl

theorem F_ref38_Model_temperatures_ok {R : Value → Heap → Prop} (m : Addr) {H : Heap} (h : F_ref38_Model_temperatures R m H) : CallsH Try.prog n_ref38_Model_temperatures #[.pointer (some m)] H R :=
  wpF_sound Try.func36 (Eq.mpr (F_ref38_Model_temperatures_eq R m H) h)

/-! ### 37: platformfw/platformfwref38.floor -/

def F_ref38_floor (R : Value → Heap → Prop) (a : Int) (b : Int) (H : Heap) : Prop :=
  b ≠ 0 ∧ (
  letV (IntKind.i64.wrap (a.tdiv b)) (fun q : Int =>
  b ≠ 0 ∧ (
  iteB (decide ((a.tmod b) < (0 : Int))) (
  letV (IntKind.i64.wrap (q - (1 : Int))) (fun q1 : Int =>
  R (.int .i64 q1) H)) (
  R (.int .i64 q) H))))

theorem F_ref38_floor_eq (R : Value → Heap → Prop) (a : Int) (b : Int) (H : Heap) : wpF Try.prog Try.f37 [] [] [] [26] [.int .i64 a, .int .i64 b] H R = F_ref38_floor R a b H := by kernel_rfl

theorem F_ref38_floor_ok {R : Value → Heap → Prop} (a : Int) (b : Int) {H : Heap} (h : F_ref38_floor R a b H) : CallsH Try.prog n_ref38_floor #[.int .i64 a, .int .i64 b] H R :=
  wpF_sound Try.func37 (Eq.mpr (F_ref38_floor_eq R a b H) h)

/-! ### 38: slices.Clone[[]int64,int64] -/

def F_slices_Clone_sl_int64_int64 (R : Value → Heap → Prop) (s : Sl) (H : Heap) : Prop :=
  iteB s.p.isNone (
  R (.slice none 0 0) H) (
  letH (H.push (.cells #[] t_int64 (0, 0))) (fun H1 : Heap =>
  runH Try.prog (Builtin.append_ #[t_sl_int64, t_sl_int64] t_sl_int64 #[.slice (some (⟨H.size, 0, none⟩ : Addr)) 0 0, .slice s.p s.n s.c]) H1 (fun v H2 =>
  ∃ x : Sl, v = .slice x.p x.n x.c ∧ (
  R (.slice x.p x.n x.c) H2))))

theorem F_slices_Clone_sl_int64_int64_eq (R : Value → Heap → Prop) (s : Sl) (H : Heap) : wpF Try.prog Try.f38 [] [] [] [26] [.slice s.p s.n s.c] H R = F_slices_Clone_sl_int64_int64 R s H := by kernel_rfl

theorem F_slices_Clone_sl_int64_int64_ok {R : Value → Heap → Prop} (s : Sl) {H : Heap} (h : F_slices_Clone_sl_int64_int64 R s H) : CallsH Try.prog n_slices_Clone_sl_int64_int64 #[.slice s.p s.n s.c] H R :=
  wpF_sound Try.func38 (Eq.mpr (F_slices_Clone_sl_int64_int64_eq R s H) h)

end Go.Proofs.Ytenpfhfhjpipaaa
