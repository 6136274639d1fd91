/-
  The shallow readings of this seat's functions, written by a program (gen.py); the kernel holds each against the loaded program.
-/
import Derived.Test.YtdiopeomnpfiaaaProg
import Derived.Test.YtdiopeomnpfiaaaEngS
namespace Go.Proofs.Ytdiopeomnpfiaaa
open Go.Eng
abbrev n_law23_HotplugSlotMatchesModel : FuncId := 3
abbrev n_law23_HotplugPowerBalance : FuncId := 4
abbrev n_hotplug_NewSlot : FuncId := 5
abbrev n_ref21_NewSlot : FuncId := 6
abbrev n_law23_awake : FuncId := 7
abbrev n_help_Mod : FuncId := 8
abbrev n_help_Equal_int : FuncId := 9
abbrev n_hotplug_Slot_Advance : FuncId := 10
abbrev n_ref21_Slot_Advance : FuncId := 11
abbrev n_hotplug_Slot_Handle : FuncId := 12
abbrev n_ref21_Slot_Handle : FuncId := 13
abbrev n_hotplug_Slot_State : FuncId := 14
abbrev n_hotplug_Slot_enter : FuncId := 15
abbrev n_hotplug_saturatingSum : FuncId := 16
abbrev t_int64 : TypeId := 2
abbrev t_int : TypeId := 3
abbrev t_bool : TypeId := 4
abbrev t_uint8 : TypeId := 5
abbrev t_abi_BoundsErrorCode : TypeId := 6
abbrev t_runtime_boundsError : TypeId := 8
abbrev t_string : TypeId := 9
abbrev t_runtime_errorString : TypeId := 10
abbrev t_runtime_plainError : TypeId := 11
abbrev t_uintptr : TypeId := 12
abbrev t_runtime_errorAddressString : TypeId := 14
abbrev t_p_runtime_TypeAssertionError : TypeId := 15
abbrev t_p_runtime_PanicNilError : TypeId := 16
abbrev t_p_abi_Type : TypeId := 17
abbrev t_maps_unhashableTypeError : TypeId := 19
abbrev t_int32 : TypeId := 21
abbrev t_uint64 : TypeId := 22
abbrev t_sl_int : TypeId := 23
abbrev t_sl_uint64 : TypeId := 24
abbrev t_p_hotplug_Slot : TypeId := 25
abbrev t_api_Errno : TypeId := 26
abbrev t_p_ref21_Slot : TypeId := 29
abbrev t_ref21_Slot : TypeId := 39
abbrev t_hotplug_Slot : TypeId := 43
abbrev t_uint : TypeId := 44
abbrev t_runtime_TypeAssertionError : TypeId := 49
abbrev t_0_p_runtime_PanicNilError : TypeId := 50
abbrev t_runtime_PanicNilError : TypeId := 52
abbrev t_uint32 : TypeId := 53
abbrev t_abi_TFlag : TypeId := 54
abbrev t_abi_Kind : TypeId := 55
abbrev t_p_uint8 : TypeId := 57
abbrev t_abi_NameOff : TypeId := 58
abbrev t_abi_TypeOff : TypeId := 59
abbrev t_abi_Type : TypeId := 61
abbrev t_unsafe_Pointer : TypeId := 62

/-! ### 3: platformfw/platformfwlaw23.HotplugSlotMatchesModel -/

def F_law23_HotplugSlotMatchesModel_k1 (R : Value → Heap → Prop) (x2 : Option Addr) (x4 : Option Addr) (I_ : Int → Int → Heap → Prop) (M_ : Int → Int → Heap → Nat) (now : Int) (i : Int) (H6 : Heap) (now2 : Int) (H16 : Heap) : Prop :=
  CallsQ Try.prog n_hotplug_Slot_State #[.pointer x2] H16 (fun v11 =>
  ∃ x16 : Int, v11 = .int .i64 x16 ∧ (
  unSome x4 (fun a3 =>
  ∃ x17 : Int, rd H16 a3 = some (.int .i64 x17) ∧ (
  ∀ H17 : Heap, Ext H16 H17 → (
  iteB (x16 != x17) (
  R (.bool false) H17) (
  letV (IntKind.i64.wrap (i + (1 : Int))) (fun i1 : Int =>
  I_ now2 i1 H17 ∧ M_ now2 i1 H17 < M_ now i H6)))))))

def F_law23_HotplugSlotMatchesModel_k2 (R : Value → Heap → Prop) (x2 : Option Addr) (x4 : Option Addr) (I_ : Int → Int → Heap → Prop) (M_ : Int → Int → Heap → Nat) (now : Int) (i : Int) (H6 : Heap) (now2 : Int) (ev2 : Int) (H9 : Heap) : Prop :=
  ∃ J_3 : Heap → Prop, (
  iteB (ev2 == (8 : Int)) (
  CallsH Try.prog n_hotplug_Slot_Advance #[.pointer x2, .int .u64 now2] H9 (fun v5 H10 =>
  ∃ x8 : Sl, v5 = .slice x8.p x8.n x8.c ∧ (
  CallsH Try.prog n_ref21_Slot_Advance #[.pointer x4, .int .u64 now2] H10 (fun v6 H11 =>
  ∃ x9 : Sl, v6 = .slice x9.p x9.n x9.c ∧ (
  CallsH Try.prog n_help_Equal_int #[.slice x8.p x8.n x8.c, .slice x9.p x9.n x9.c] H11 (fun v7 H12 =>
  ∃ x10 : Bool, v7 = .bool x10 ∧ (
  iteB (!x10) (
  R (.bool false) H12) (
  J_3 H12)))))))) (
  CallsH Try.prog n_hotplug_Slot_Handle #[.pointer x2, .int .i64 ev2, .int .u64 now2] H9 (fun v8 H13 =>
  ∃ x11 : Sl, ∃ x12 : Int, v8 = .tuple #[.slice x11.p x11.n x11.c, .int .i64 x12] ∧ (
  CallsH Try.prog n_ref21_Slot_Handle #[.pointer x4, .int .i64 ev2, .int .u64 now2] H13 (fun v9 H14 =>
  ∃ x13 : Sl, ∃ x14 : Int, v9 = .tuple #[.slice x13.p x13.n x13.c, .int .i64 x14] ∧ (
  CallsH Try.prog n_help_Equal_int #[.slice x11.p x11.n x11.c, .slice x13.p x13.n x13.c] H14 (fun v10 H15 =>
  ∃ x15 : Bool, v10 = .bool x15 ∧ (
  iteB (!x15) (
  R (.bool false) H15) (
  iteB (x12 != x14) (
  R (.bool false) H15) (
  J_3 H15)))))))))) ∧ (∀ H16 : Heap, J_3 H16 → F_law23_HotplugSlotMatchesModel_k1 R x2 x4 I_ M_ now i H6 now2 H16)

def F_law23_HotplugSlotMatchesModel_k3 (R : Value → Heap → Prop) (events : Sl) (x2 : Option Addr) (x4 : Option Addr) (I_ : Int → Int → Heap → Prop) (M_ : Int → Int → Heap → Nat) (now : Int) (i : Int) (H6 : Heap) (now2 : Int) (H7 : Heap) : Prop :=
  0 ≤ i ∧ i < (events.n : Int) ∧ (unSome events.p (fun a1 =>
  ∃ x7 : Int, rd H7 (a1.add (i.toNat * 1)) = some (.int .i64 x7) ∧ (
  CallsH Try.prog n_help_Mod #[.int .i64 x7, .int .i64 (9 : Int)] H7 (fun v4 H8 =>
  ∃ ev : Int, v4 = .int .i64 ev ∧ (
  ∃ J_2 : Int → Heap → Prop, (
  iteB (i == (7 : Int)) (
  0 ≤ i ∧ i < (events.n : Int) ∧ (unSome events.p (fun a2 =>
  ∃ ev1 : Int, rd H8 (a2.add (i.toNat * 1)) = some (.int .i64 ev1) ∧ (
  J_2 ev1 H8)))) (
  J_2 ev H8)) ∧ (∀ ev2 : Int, ∀ H9 : Heap, J_2 ev2 H9 → F_law23_HotplugSlotMatchesModel_k2 R x2 x4 I_ M_ now i H6 now2 ev2 H9))))))

def F_law23_HotplugSlotMatchesModel_r4 (R : Value → Heap → Prop) (events : Sl) (passes : Sl) (x2 : Option Addr) (x4 : Option Addr) (I_ : Int → Int → Heap → Prop) (M_ : Int → Int → Heap → Nat) (now : Int) (i : Int) (H6 : Heap) : Prop :=
  iteB (decide (i < (events.n : Int))) (
  iteB (decide (i < (90 : Int))) (
  ∃ J_1 : Int → Heap → Prop, (
  iteB (decide (i < (passes.n : Int))) (
  0 ≤ i ∧ i < (passes.n : Int) ∧ (unSome passes.p (fun a =>
  ∃ x6 : Int, rd H6 (a.add (i.toNat * 1)) = some (.int .u64 x6) ∧ (
  letV (IntKind.u64.wrap (now + (x6.tmod (5 : Int)))) (fun now1 : Int =>
  J_1 now1 H6))))) (
  J_1 now H6)) ∧ (∀ now2 : Int, ∀ H7 : Heap, J_1 now2 H7 → F_law23_HotplugSlotMatchesModel_k3 R events x2 x4 I_ M_ now i H6 now2 H7)) (
  R (.bool true) H6)) (
  R (.bool true) H6)

def F_law23_HotplugSlotMatchesModel_k5 (R : Value → Heap → Prop) (present : Bool) (events : Sl) (passes : Sl) (delay2 : Int) (H2 : Heap) : Prop :=
  CallsH Try.prog n_hotplug_NewSlot #[.bool present, .int .u64 delay2] H2 (fun v1 H3 =>
  ∃ x2 : Option Addr, ∃ x3 : Int, v1 = .tuple #[.pointer x2, .int .i64 x3] ∧ (
  CallsH Try.prog n_ref21_NewSlot #[.bool present, .int .u64 delay2] H3 (fun v2 H4 =>
  ∃ x4 : Option Addr, v2 = .pointer x4 ∧ (
  CallsH Try.prog n_law23_awake #[] H4 (fun v3 H5 =>
  ∃ x5 : Bool, v3 = .bool x5 ∧ (
  iteB (!x5) (
  R (.bool false) H5) (
  iteB (x3 != (0 : Int)) (
  R (.bool false) H5) (
  iteB x2.isNone (
  R (.bool false) H5) (
  ∃ I_ : Int → Int → Heap → Prop, ∃ M_ : Int → Int → Heap → Nat, I_ (0 : Int) (0 : Int) H5 ∧ (∀ now : Int, ∀ i : Int, ∀ H6 : Heap, I_ now i H6 → F_law23_HotplugSlotMatchesModel_r4 R events passes x2 x4 I_ M_ now i H6))))))))))

def F_law23_HotplugSlotMatchesModel (R : Value → Heap → Prop) (present : Bool) (delay : Int) (events : Sl) (passes : Sl) (H : Heap) : Prop :=
  ∃ J_ : Int → Heap → Prop, (
  iteB (decide (delay > (4294967296 : Int))) (
  CallsH Try.prog n_hotplug_NewSlot #[.bool present, .int .u64 delay] H (fun v H1 =>
  ∃ x : Option Addr, ∃ x1 : Int, v = .tuple #[.pointer x, .int .i64 x1] ∧ (
  iteB (!x.isNone) (
  R (.bool false) H1) (
  iteB (x1 != (1 : Int)) (
  R (.bool false) H1) (
  letV (delay.tmod (6 : Int)) (fun delay1 : Int =>
  J_ delay1 H1)))))) (
  J_ delay H)) ∧ (∀ delay2 : Int, ∀ H2 : Heap, J_ delay2 H2 → F_law23_HotplugSlotMatchesModel_k5 R present events passes delay2 H2)

theorem F_law23_HotplugSlotMatchesModel_eq (R : Value → Heap → Prop) (present : Bool) (delay : Int) (events : Sl) (passes : Sl) (H : Heap) : wpF Try.prog Try.f3 [(1, .int .u64 0), (14, .int .u64 0), (15, .int .i64 0), (16, .int .i64 0)] [(6, [1], [0, 2, 3]), (16, [14], [2, 3, 11, 13, 15]), (19, [16], [2, 3, 11, 13, 14, 15]), (26, [], [2, 3, 11, 13, 14, 15])] [(12, [14, 15], [2, 3, 11, 13])] [.bool present, .int .u64 delay, .slice events.p events.n events.c, .slice passes.p passes.n passes.c] H R = F_law23_HotplugSlotMatchesModel R present delay events passes H := by kernel_rfl

theorem F_law23_HotplugSlotMatchesModel_ok {R : Value → Heap → Prop} (present : Bool) (delay : Int) (events : Sl) (passes : Sl) {H : Heap} (h : F_law23_HotplugSlotMatchesModel R present delay events passes H) : CallsH Try.prog n_law23_HotplugSlotMatchesModel #[.bool present, .int .u64 delay, .slice events.p events.n events.c, .slice passes.p passes.n passes.c] H R :=
  wpF_sound Try.func3 (Eq.mpr (F_law23_HotplugSlotMatchesModel_eq R present delay events passes H) h)

/-! ### 4: platformfw/platformfwlaw23.HotplugPowerBalance -/

def F_law23_HotplugPowerBalance_r1 (R : Value → Heap → Prop) (x : Option Addr) (I_ : Bool → Bool → Int → Int → Heap → Prop) (M_ : Bool → Bool → Int → Int → Heap → Nat) (on : Bool) (known : Bool) (now : Int) (i : Int) (H3 : Heap) (now2 : Int) (l1 : Sl) (I_1 : Bool → Bool → Int → Heap → Prop) (M_1 : Bool → Bool → Int → Heap → Nat) (on1 : Bool) (known1 : Bool) (k : Int) (H9 : Heap) : Prop :=
  iteB (decide (k < (l1.n : Int))) (
  0 ≤ k ∧ k < (l1.n : Int) ∧ (unSome l1.p (fun a2 =>
  ∃ x7 : Int, rd H9 (a2.add (k.toNat * 1)) = some (.int .i64 x7) ∧ (
  iteB (x7 == (1 : Int)) (
  iteB on1 (
  R (.bool false) H9) (
  letV (IntKind.i64.wrap (k + (1 : Int))) (fun k1 : Int =>
  I_1 true known1 k1 H9 ∧ M_1 true known1 k1 H9 < M_1 on1 known1 k H9))) (
  iteB (x7 == (2 : Int)) (
  iteB (!on1) (
  R (.bool false) H9) (
  iteB known1 (
  R (.bool false) H9) (
  letV (IntKind.i64.wrap (k + (1 : Int))) (fun k2 : Int =>
  I_1 false known1 k2 H9 ∧ M_1 false known1 k2 H9 < M_1 on1 known1 k H9)))) (
  iteB (x7 == (3 : Int)) (
  iteB (!on1) (
  R (.bool false) H9) (
  iteB known1 (
  R (.bool false) H9) (
  letV (IntKind.i64.wrap (k + (1 : Int))) (fun k3 : Int =>
  I_1 on1 true k3 H9 ∧ M_1 on1 true k3 H9 < M_1 on1 known1 k H9)))) (
  iteB (x7 == (5 : Int)) (
  iteB (!known1) (
  R (.bool false) H9) (
  letV (IntKind.i64.wrap (k + (1 : Int))) (fun k4 : Int =>
  I_1 on1 false k4 H9 ∧ M_1 on1 false k4 H9 < M_1 on1 known1 k H9))) (
  iteB (x7 == (4 : Int)) (
  iteB (!known1) (
  R (.bool false) H9) (
  letV (IntKind.i64.wrap (k + (1 : Int))) (fun k5 : Int =>
  I_1 on1 known1 k5 H9 ∧ M_1 on1 known1 k5 H9 < M_1 on1 known1 k H9))) (
  R (.bool false) H9))))))))) (
  CallsH Try.prog n_hotplug_Slot_State #[.pointer x] H9 (fun v5 H10 =>
  ∃ x8 : Int, v5 = .int .i64 x8 ∧ (
  iteB (x8 == (4 : Int)) (
  iteB (!(known1 == true)) (
  R (.bool false) H10) (
  iteB known1 (
  iteB (!(on1 == true)) (
  R (.bool false) H10) (
  letV (IntKind.i64.wrap (i + (1 : Int))) (fun i1 : Int =>
  I_ on1 known1 now2 i1 H10 ∧ M_ on1 known1 now2 i1 H10 < M_ on known now i H3))) (
  CallsH Try.prog n_hotplug_Slot_State #[.pointer x] H10 (fun v6 H11 =>
  ∃ x9 : Int, v6 = .int .i64 x9 ∧ (
  iteB (!(on1 == (x9 == (3 : Int)))) (
  R (.bool false) H11) (
  letV (IntKind.i64.wrap (i + (1 : Int))) (fun i2 : Int =>
  I_ on1 known1 now2 i2 H11 ∧ M_ on1 known1 now2 i2 H11 < M_ on known now i H3))))))) (
  CallsH Try.prog n_hotplug_Slot_State #[.pointer x] H10 (fun v7 H12 =>
  ∃ x10 : Int, v7 = .int .i64 x10 ∧ (
  iteB (!(known1 == (x10 == (5 : Int)))) (
  R (.bool false) H12) (
  iteB known1 (
  iteB (!(on1 == true)) (
  R (.bool false) H12) (
  letV (IntKind.i64.wrap (i + (1 : Int))) (fun i3 : Int =>
  I_ on1 known1 now2 i3 H12 ∧ M_ on1 known1 now2 i3 H12 < M_ on known now i H3))) (
  CallsH Try.prog n_hotplug_Slot_State #[.pointer x] H12 (fun v8 H13 =>
  ∃ x11 : Int, v8 = .int .i64 x11 ∧ (
  iteB (!(on1 == (x11 == (3 : Int)))) (
  R (.bool false) H13) (
  letV (IntKind.i64.wrap (i + (1 : Int))) (fun i4 : Int =>
  I_ on1 known1 now2 i4 H13 ∧ M_ on1 known1 now2 i4 H13 < M_ on known now i H3))))))))))))

def F_law23_HotplugPowerBalance_k2 (R : Value → Heap → Prop) (x : Option Addr) (I_ : Bool → Bool → Int → Int → Heap → Prop) (M_ : Bool → Bool → Int → Int → Heap → Nat) (on : Bool) (known : Bool) (now : Int) (i : Int) (H3 : Heap) (now2 : Int) (l1 : Sl) (H8 : Heap) : Prop :=
  ∃ I_1 : Bool → Bool → Int → Heap → Prop, ∃ M_1 : Bool → Bool → Int → Heap → Nat, I_1 on known (0 : Int) H8 ∧ (∀ on1 : Bool, ∀ known1 : Bool, ∀ k : Int, ∀ H9 : Heap, I_1 on1 known1 k H9 → F_law23_HotplugPowerBalance_r1 R x I_ M_ on known now i H3 now2 l1 I_1 M_1 on1 known1 k H9)

def F_law23_HotplugPowerBalance_k3 (R : Value → Heap → Prop) (events : Sl) (x : Option Addr) (I_ : Bool → Bool → Int → Int → Heap → Prop) (M_ : Bool → Bool → Int → Int → Heap → Nat) (on : Bool) (known : Bool) (now : Int) (i : Int) (H3 : Heap) (now2 : Int) (H4 : Heap) : Prop :=
  ∃ J_1 : Sl → Heap → Prop, (
  0 ≤ i ∧ i < (events.n : Int) ∧ (unSome events.p (fun a1 =>
  ∃ x4 : Int, rd H4 (a1.add (i.toNat * 1)) = some (.int .i64 x4) ∧ (
  CallsH Try.prog n_help_Mod #[.int .i64 x4, .int .i64 (8 : Int)] H4 (fun v2 H5 =>
  ∃ ev : Int, v2 = .int .i64 ev ∧ (
  iteB (ev == (7 : Int)) (
  CallsH Try.prog n_hotplug_Slot_Advance #[.pointer x, .int .u64 now2] H5 (fun v3 H6 =>
  ∃ l : Sl, v3 = .slice l.p l.n l.c ∧ (
  J_1 l H6))) (
  CallsH Try.prog n_hotplug_Slot_Handle #[.pointer x, .int .i64 ev, .int .u64 now2] H5 (fun v4 H7 =>
  ∃ x5 : Sl, ∃ x6 : Int, v4 = .tuple #[.slice x5.p x5.n x5.c, .int .i64 x6] ∧ (
  J_1 x5 H7))))))))) ∧ (∀ l1 : Sl, ∀ H8 : Heap, J_1 l1 H8 → F_law23_HotplugPowerBalance_k2 R x I_ M_ on known now i H3 now2 l1 H8)

def F_law23_HotplugPowerBalance_r4 (R : Value → Heap → Prop) (events : Sl) (passes : Sl) (x : Option Addr) (I_ : Bool → Bool → Int → Int → Heap → Prop) (M_ : Bool → Bool → Int → Int → Heap → Nat) (on : Bool) (known : Bool) (now : Int) (i : Int) (H3 : Heap) : Prop :=
  iteB (decide (i < (events.n : Int))) (
  iteB (decide (i < (90 : Int))) (
  ∃ J_ : Int → Heap → Prop, (
  iteB (decide (i < (passes.n : Int))) (
  0 ≤ i ∧ i < (passes.n : Int) ∧ (unSome passes.p (fun a =>
  ∃ x3 : Int, rd H3 (a.add (i.toNat * 1)) = some (.int .u64 x3) ∧ (
  letV (IntKind.u64.wrap (now + (x3.tmod (5 : Int)))) (fun now1 : Int =>
  J_ now1 H3))))) (
  J_ now H3)) ∧ (∀ now2 : Int, ∀ H4 : Heap, J_ now2 H4 → F_law23_HotplugPowerBalance_k3 R events x I_ M_ on known now i H3 now2 H4)) (
  R (.bool true) H3)) (
  R (.bool true) H3)

def F_law23_HotplugPowerBalance (R : Value → Heap → Prop) (delay : Int) (events : Sl) (passes : Sl) (H : Heap) : Prop :=
  CallsH Try.prog n_hotplug_NewSlot #[.bool false, .int .u64 (delay.tmod (6 : Int))] H (fun v H1 =>
  ∃ x : Option Addr, ∃ x1 : Int, v = .tuple #[.pointer x, .int .i64 x1] ∧ (
  CallsH Try.prog n_law23_awake #[] H1 (fun v1 H2 =>
  ∃ x2 : Bool, v1 = .bool x2 ∧ (
  iteB (!x2) (
  R (.bool false) H2) (
  iteB (x1 != (0 : Int)) (
  R (.bool false) H2) (
  iteB x.isNone (
  R (.bool false) H2) (
  ∃ I_ : Bool → Bool → Int → Int → Heap → Prop, ∃ M_ : Bool → Bool → Int → Int → Heap → Nat, I_ false false (0 : Int) (0 : Int) H2 ∧ (∀ on : Bool, ∀ known : Bool, ∀ now : Int, ∀ i : Int, ∀ H3 : Heap, I_ on known now i H3 → F_law23_HotplugPowerBalance_r4 R events passes x I_ M_ on known now i H3))))))))

theorem F_law23_HotplugPowerBalance_eq (R : Value → Heap → Prop) (delay : Int) (events : Sl) (passes : Sl) (H : Heap) : wpF Try.prog Try.f4 [(9, .bool false), (10, .bool false), (11, .int .u64 0), (12, .int .i64 0), (13, .slice none 0 0), (15, .int .i64 0)] [(11, [11], [1, 2, 7, 9, 10, 12]), (16, [13], [1, 2, 7, 9, 10, 11, 12])] [(7, [9, 10, 11, 12], [1, 2, 7]), (17, [9, 10, 15], [1, 2, 7, 11, 12, 13])] [.int .u64 delay, .slice events.p events.n events.c, .slice passes.p passes.n passes.c] H R = F_law23_HotplugPowerBalance R delay events passes H := by kernel_rfl

theorem F_law23_HotplugPowerBalance_ok {R : Value → Heap → Prop} (delay : Int) (events : Sl) (passes : Sl) {H : Heap} (h : F_law23_HotplugPowerBalance R delay events passes H) : CallsH Try.prog n_law23_HotplugPowerBalance #[.int .u64 delay, .slice events.p events.n events.c, .slice passes.p passes.n passes.c] H R :=
  wpF_sound Try.func4 (Eq.mpr (F_law23_HotplugPowerBalance_eq R delay events passes H) h)

/-! ### 5: platformfw/hotplug.NewSlot -/

def F_hotplug_NewSlot (R : Value → Heap → Prop) (present : Bool) (delay : Int) (H : Heap) : Prop :=
  iteB (decide (delay > (4294967296 : Int))) (
  R (.tuple #[.pointer none, .int .i64 (1 : Int)]) H) (
  letH (H.push (.cells #[.int .i64 (1 : Int), .int .u64 delay, .int .u64 (0 : Int)] t_hotplug_Slot (0, 0))) (fun H1 : Heap =>
  iteB present (
  okRow H1 (⟨H.size, 0, none⟩) 1 ∧ (
  letH (wrs H1 (⟨H.size, 0, none⟩) [.int .i64 (2 : Int)]) (fun H2 : Heap =>
  R (.tuple #[.pointer (some (⟨H.size, 0, none⟩)), .int .i64 (0 : Int)]) H2))) (
  R (.tuple #[.pointer (some (⟨H.size, 0, none⟩)), .int .i64 (0 : Int)]) H1)))

theorem F_hotplug_NewSlot_eq (R : Value → Heap → Prop) (present : Bool) (delay : Int) (H : Heap) : wpF Try.prog Try.f5 [] [] [] [.bool present, .int .u64 delay] H R = F_hotplug_NewSlot R present delay H := by kernel_rfl

theorem F_hotplug_NewSlot_ok {R : Value → Heap → Prop} (present : Bool) (delay : Int) {H : Heap} (h : F_hotplug_NewSlot R present delay H) : CallsH Try.prog n_hotplug_NewSlot #[.bool present, .int .u64 delay] H R :=
  wpF_sound Try.func5 (Eq.mpr (F_hotplug_NewSlot_eq R present delay H) h)

/-! ### 6: platformfw/platformfwref21.NewSlot -/

def F_ref21_NewSlot (R : Value → Heap → Prop) (present : Bool) (delay : Int) (H : Heap) : Prop :=
  letH (H.push (.cells #[.int .i64 (1 : Int), .int .u64 delay, .int .u64 (0 : Int)] t_ref21_Slot (0, 0))) (fun H1 : Heap =>
  iteB present (
  okRow H1 (⟨H.size, 0, none⟩) 1 ∧ (
  letH (wrs H1 (⟨H.size, 0, none⟩) [.int .i64 (2 : Int)]) (fun H2 : Heap =>
  R (.pointer (some (⟨H.size, 0, none⟩))) H2))) (
  R (.pointer (some (⟨H.size, 0, none⟩))) H1))

theorem F_ref21_NewSlot_eq (R : Value → Heap → Prop) (present : Bool) (delay : Int) (H : Heap) : wpF Try.prog Try.f6 [] [] [] [.bool present, .int .u64 delay] H R = F_ref21_NewSlot R present delay H := by kernel_rfl

theorem F_ref21_NewSlot_ok {R : Value → Heap → Prop} (present : Bool) (delay : Int) {H : Heap} (h : F_ref21_NewSlot R present delay H) : CallsH Try.prog n_ref21_NewSlot #[.bool present, .int .u64 delay] H R :=
  wpF_sound Try.func6 (Eq.mpr (F_ref21_NewSlot_eq R present delay H) h)

/-! ### 7: platformfw/platformfwlaw23.awake -/

def F_law23_awake (R : Value → Heap → Prop)  (H : Heap) : Prop :=
  CallsH Try.prog n_hotplug_NewSlot #[.bool true, .int .u64 (5 : Int)] H (fun v H1 =>
  ∃ x : Option Addr, ∃ x1 : Int, v = .tuple #[.pointer x, .int .i64 x1] ∧ (
  iteB (x1 != (0 : Int)) (
  R (.bool false) H1) (
  iteB x.isNone (
  R (.bool false) H1) (
  CallsH Try.prog n_hotplug_Slot_Handle #[.pointer x, .int .i64 (3 : Int), .int .u64 (10 : Int)] H1 (fun v1 H2 =>
  ∃ x2 : Sl, ∃ x3 : Int, v1 = .tuple #[.slice x2.p x2.n x2.c, .int .i64 x3] ∧ (
  CallsH Try.prog n_hotplug_Slot_Advance #[.pointer x, .int .u64 (15 : Int)] H2 (fun v2 H3 =>
  ∃ b : Sl, v2 = .slice b.p b.n b.c ∧ (
  CallsH Try.prog n_hotplug_Slot_Handle #[.pointer x, .int .i64 (2 : Int), .int .u64 (20 : Int)] H3 (fun v3 H4 =>
  ∃ x4 : Sl, ∃ x5 : Int, v3 = .tuple #[.slice x4.p x4.n x4.c, .int .i64 x5] ∧ (
  iteB (x3 == (0 : Int)) (
  iteB (x5 == (0 : Int)) (
  letH (H4.push (.cells #[.int .i64 (1 : Int)] t_int (0, 0))) (fun H5 : Heap =>
  CallsH Try.prog n_help_Equal_int #[.slice x2.p x2.n x2.c, .slice (some (⟨H4.size, 0, none⟩)) 1 1] H5 (fun v4 H6 =>
  ∃ x6 : Bool, v4 = .bool x6 ∧ (
  iteB x6 (
  letH (H6.push (.cells #[.int .i64 (3 : Int)] t_int (0, 0))) (fun H7 : Heap =>
  CallsH Try.prog n_help_Equal_int #[.slice b.p b.n b.c, .slice (some (⟨H6.size, 0, none⟩)) 1 1] H7 (fun v5 H8 =>
  ∃ x7 : Bool, v5 = .bool x7 ∧ (
  iteB x7 (
  letH (H8.push (.cells #[.int .i64 (5 : Int), .int .i64 (2 : Int)] t_int (0, 0))) (fun H9 : Heap =>
  CallsH Try.prog n_help_Equal_int #[.slice x4.p x4.n x4.c, .slice (some (⟨H8.size, 0, none⟩)) 2 2] H9 (fun v6 H10 =>
  ∃ x8 : Bool, v6 = .bool x8 ∧ (
  iteB x8 (
  CallsH Try.prog n_hotplug_Slot_State #[.pointer x] H10 (fun v7 H11 =>
  ∃ x9 : Int, v7 = .int .i64 x9 ∧ (
  R (.bool (x9 == (1 : Int))) H11))) (
  R (.bool false) H10))))) (
  R (.bool false) H8))))) (
  R (.bool false) H6))))) (
  R (.bool false) H4)) (
  R (.bool false) H4)))))))))))

theorem F_law23_awake_eq (R : Value → Heap → Prop)  (H : Heap) : wpF Try.prog Try.f7 [] [] [] [] H R = F_law23_awake R  H := by kernel_rfl

theorem F_law23_awake_ok {R : Value → Heap → Prop}  {H : Heap} (h : F_law23_awake R  H) : CallsH Try.prog n_law23_awake #[] H R :=
  wpF_sound Try.func7 (Eq.mpr (F_law23_awake_eq R  H) h)

/-! ### 8: platformfw/platformfwhelp.Mod -/

def F_help_Mod (R : Value → Heap → Prop) (v : Int) (n : Int) (H : Heap) : Prop :=
  (IntKind.u64.wrap n) ≠ 0 ∧ (
  letV (IntKind.i64.wrap ((IntKind.u64.wrap v).tmod (IntKind.u64.wrap n))) (fun x : Int =>
  R (.int .i64 x) H))

theorem F_help_Mod_eq (R : Value → Heap → Prop) (v : Int) (n : Int) (H : Heap) : wpF Try.prog Try.f8 [] [] [] [.int .i64 v, .int .i64 n] H R = F_help_Mod R v n H := by kernel_rfl

theorem F_help_Mod_ok {R : Value → Heap → Prop} (v : Int) (n : Int) {H : Heap} (h : F_help_Mod R v n H) : CallsH Try.prog n_help_Mod #[.int .i64 v, .int .i64 n] H R :=
  wpF_sound Try.func8 (Eq.mpr (F_help_Mod_eq R v n H) h)

/-! ### 9: platformfw/platformfwhelp.Equal[int] -/

def F_help_Equal_int_r1 (R : Value → Heap → Prop) (a : Sl) (b : Sl) (I_ : Int → Heap → Prop) (M_ : Int → Heap → Nat) (i : Int) (H1 : Heap) : Prop :=
  iteB (decide (i < (a.n : Int))) (
  0 ≤ i ∧ i < (a.n : Int) ∧ (unSome a.p (fun a1 =>
  ∃ x : Int, rd H1 (a1.add (i.toNat * 1)) = some (.int .i64 x) ∧ (
  0 ≤ i ∧ i < (b.n : Int) ∧ (unSome b.p (fun a2 =>
  ∃ x1 : Int, rd H1 (a2.add (i.toNat * 1)) = some (.int .i64 x1) ∧ (
  iteB (x != x1) (
  R (.bool false) H1) (
  letV (IntKind.i64.wrap (i + (1 : Int))) (fun i1 : Int =>
  I_ i1 H1 ∧ M_ i1 H1 < M_ i H1))))))))) (
  R (.bool true) H1)

def F_help_Equal_int (R : Value → Heap → Prop) (a : Sl) (b : Sl) (H : Heap) : Prop :=
  iteB ((a.n : Int) != (b.n : Int)) (
  R (.bool false) H) (
  ∃ I_ : Int → Heap → Prop, ∃ M_ : Int → Heap → Nat, I_ (0 : Int) H ∧ (∀ i : Int, ∀ H1 : Heap, I_ i H1 → F_help_Equal_int_r1 R a b I_ M_ i H1))

theorem F_help_Equal_int_eq (R : Value → Heap → Prop) (a : Sl) (b : Sl) (H : Heap) : wpF Try.prog Try.f9 [(5, .int .i64 0)] [] [(4, [5], [0, 1])] [.slice a.p a.n a.c, .slice b.p b.n b.c] H R = F_help_Equal_int R a b H := by kernel_rfl

theorem F_help_Equal_int_ok {R : Value → Heap → Prop} (a : Sl) (b : Sl) {H : Heap} (h : F_help_Equal_int R a b H) : CallsH Try.prog n_help_Equal_int #[.slice a.p a.n a.c, .slice b.p b.n b.c] H R :=
  wpF_sound Try.func9 (Eq.mpr (F_help_Equal_int_eq R a b H) h)

/-! ### 10: (*platformfw/hotplug.Slot).Advance -/

def F_hotplug_Slot_Advance (R : Value → Heap → Prop) (s : Addr) (now : Int) (H : Heap) : Prop :=
  ∃ x : Int, rd H s = some (.int .i64 x) ∧ (
  iteB (x != (3 : Int)) (
  R (.slice none 0 0) H) (
  ∃ x1 : Int, rd H (s.add 2) = some (.int .u64 x1) ∧ (
  iteB (decide (now < x1)) (
  R (.slice none 0 0) H) (
  letH (H.push (.cells #[.int .i64 (3 : Int)] t_int (0, 0))) (fun H1 : Heap =>
  CallsH Try.prog n_hotplug_Slot_enter #[.pointer (some s), .int .i64 (4 : Int), .slice (some (⟨H.size, 0, none⟩)) 1 1] H1 (fun v H2 =>
  ∃ x2 : Sl, ∃ x3 : Int, v = .tuple #[.slice x2.p x2.n x2.c, .int .i64 x3] ∧ (
  R (.slice x2.p x2.n x2.c) H2)))))))

theorem F_hotplug_Slot_Advance_eq (R : Value → Heap → Prop) (s : Addr) (now : Int) (H : Heap) : wpF Try.prog Try.f10 [] [] [] [.pointer (some s), .int .u64 now] H R = F_hotplug_Slot_Advance R s now H := by kernel_rfl

theorem F_hotplug_Slot_Advance_ok {R : Value → Heap → Prop} (s : Addr) (now : Int) {H : Heap} (h : F_hotplug_Slot_Advance R s now H) : CallsH Try.prog n_hotplug_Slot_Advance #[.pointer (some s), .int .u64 now] H R :=
  wpF_sound Try.func10 (Eq.mpr (F_hotplug_Slot_Advance_eq R s now H) h)

/-! ### 11: (*platformfw/platformfwref21.Slot).Advance -/

def F_ref21_Slot_Advance (R : Value → Heap → Prop) (s : Addr) (now : Int) (H : Heap) : Prop :=
  ∃ x : Int, rd H s = some (.int .i64 x) ∧ (
  iteB (x != (3 : Int)) (
  R (.slice none 0 0) H) (
  ∃ x1 : Int, rd H (s.add 2) = some (.int .u64 x1) ∧ (
  iteB (decide (now < x1)) (
  R (.slice none 0 0) H) (
  okRow H s 1 ∧ (
  letH (wrs H s [.int .i64 (4 : Int)]) (fun H1 : Heap =>
  letH (H1.push (.cells #[.int .i64 (3 : Int)] t_int (0, 0))) (fun H2 : Heap =>
  R (.slice (some (⟨H1.size, 0, none⟩)) 1 1) H2)))))))

theorem F_ref21_Slot_Advance_eq (R : Value → Heap → Prop) (s : Addr) (now : Int) (H : Heap) : wpF Try.prog Try.f11 [] [] [] [.pointer (some s), .int .u64 now] H R = F_ref21_Slot_Advance R s now H := by kernel_rfl

theorem F_ref21_Slot_Advance_ok {R : Value → Heap → Prop} (s : Addr) (now : Int) {H : Heap} (h : F_ref21_Slot_Advance R s now H) : CallsH Try.prog n_ref21_Slot_Advance #[.pointer (some s), .int .u64 now] H R :=
  wpF_sound Try.func11 (Eq.mpr (F_ref21_Slot_Advance_eq R s now H) h)

/-! ### 12: (*platformfw/hotplug.Slot).Handle -/

def F_hotplug_Slot_Handle_k1 (R : Value → Heap → Prop) (s : Addr) (now : Int) (x4 : Bool) (H2 : Heap) : Prop :=
  iteB x4 (
  ∃ x5 : Int, rd H2 (s.add 1) = some (.int .u64 x5) ∧ (
  CallsH Try.prog n_hotplug_saturatingSum #[.int .u64 now, .int .u64 x5] H2 (fun v1 H3 =>
  ∃ x6 : Int, v1 = .int .u64 x6 ∧ (
  okRow H3 (s.add 2) 1 ∧ (
  letH (wrs H3 (s.add 2) [.int .u64 x6]) (fun H4 : Heap =>
  letH (H4.push (.cells #[.int .i64 (1 : Int)] t_int (0, 0))) (fun H5 : Heap =>
  CallsH Try.prog n_hotplug_Slot_enter #[.pointer (some s), .int .i64 (3 : Int), .slice (some (⟨H4.size, 0, none⟩)) 1 1] H5 (fun v2 H6 =>
  ∃ x7 : Sl, ∃ x8 : Int, v2 = .tuple #[.slice x7.p x7.n x7.c, .int .i64 x8] ∧ (
  R (.tuple #[.slice x7.p x7.n x7.c, .int .i64 x8]) H6))))))))) (
  R (.tuple #[.slice none 0 0, .int .i64 (9 : Int)]) H2)

def F_hotplug_Slot_Handle_k2 (R : Value → Heap → Prop) (s : Addr) (x23 : Bool) (H17 : Heap) : Prop :=
  iteB x23 (
  letH (H17.push (.cells #[.int .i64 (5 : Int), .int .i64 (2 : Int)] t_int (0, 0))) (fun H18 : Heap =>
  CallsH Try.prog n_hotplug_Slot_enter #[.pointer (some s), .int .i64 (1 : Int), .slice (some (⟨H17.size, 0, none⟩)) 2 2] H18 (fun v8 H19 =>
  ∃ x24 : Sl, ∃ x25 : Int, v8 = .tuple #[.slice x24.p x24.n x24.c, .int .i64 x25] ∧ (
  R (.tuple #[.slice x24.p x24.n x24.c, .int .i64 x25]) H19)))) (
  R (.tuple #[.slice none 0 0, .int .i64 (9 : Int)]) H17)

def F_hotplug_Slot_Handle_k3 (R : Value → Heap → Prop) (s : Addr) (x17 : Int) (x18 : Bool) (H13 : Heap) : Prop :=
  iteB x18 (
  CallsH Try.prog n_hotplug_Slot_enter #[.pointer (some s), .int .i64 (1 : Int), .slice none 0 0] H13 (fun v6 H14 =>
  ∃ x19 : Sl, ∃ x20 : Int, v6 = .tuple #[.slice x19.p x19.n x19.c, .int .i64 x20] ∧ (
  R (.tuple #[.slice x19.p x19.n x19.c, .int .i64 x20]) H14))) (
  iteB (x17 == (3 : Int)) (
  letH (H13.push (.cells #[.int .i64 (2 : Int)] t_int (0, 0))) (fun H15 : Heap =>
  CallsH Try.prog n_hotplug_Slot_enter #[.pointer (some s), .int .i64 (1 : Int), .slice (some (⟨H13.size, 0, none⟩)) 1 1] H15 (fun v7 H16 =>
  ∃ x21 : Sl, ∃ x22 : Int, v7 = .tuple #[.slice x21.p x21.n x21.c, .int .i64 x22] ∧ (
  R (.tuple #[.slice x21.p x21.n x21.c, .int .i64 x22]) H16)))) (
  ∃ J_2 : Bool → Heap → Prop, (
  iteB (x17 == (4 : Int)) (
  J_2 true H13) (
  J_2 (x17 == (5 : Int)) H13)) ∧ (∀ x23 : Bool, ∀ H17 : Heap, J_2 x23 H17 → F_hotplug_Slot_Handle_k2 R s x23 H17)))

def F_hotplug_Slot_Handle_k4 (R : Value → Heap → Prop) (s : Addr) (x29 : Bool) (H22 : Heap) : Prop :=
  iteB x29 (
  letH (H22.push (.cells #[.int .i64 (5 : Int), .int .i64 (2 : Int)] t_int (0, 0))) (fun H23 : Heap =>
  CallsH Try.prog n_hotplug_Slot_enter #[.pointer (some s), .int .i64 (6 : Int), .slice (some (⟨H22.size, 0, none⟩)) 2 2] H23 (fun v10 H24 =>
  ∃ x30 : Sl, ∃ x31 : Int, v10 = .tuple #[.slice x30.p x30.n x30.c, .int .i64 x31] ∧ (
  R (.tuple #[.slice x30.p x30.n x30.c, .int .i64 x31]) H24)))) (
  R (.tuple #[.slice none 0 0, .int .i64 (9 : Int)]) H22)

def F_hotplug_Slot_Handle (R : Value → Heap → Prop) (s : Addr) (event : Int) (now : Int) (H : Heap) : Prop :=
  iteB (event == (1 : Int)) (
  ∃ x : Int, rd H s = some (.int .i64 x) ∧ (
  iteB (x == (1 : Int)) (
  CallsH Try.prog n_hotplug_Slot_enter #[.pointer (some s), .int .i64 (2 : Int), .slice none 0 0] H (fun v H1 =>
  ∃ x1 : Sl, ∃ x2 : Int, v = .tuple #[.slice x1.p x1.n x1.c, .int .i64 x2] ∧ (
  R (.tuple #[.slice x1.p x1.n x1.c, .int .i64 x2]) H1))) (
  R (.tuple #[.slice none 0 0, .int .i64 (9 : Int)]) H))) (
  iteB (event == (3 : Int)) (
  ∃ x3 : Int, rd H s = some (.int .i64 x3) ∧ (
  ∃ J_ : Bool → Heap → Prop, (
  iteB (x3 == (2 : Int)) (
  J_ true H) (
  J_ (x3 == (6 : Int)) H)) ∧ (∀ x4 : Bool, ∀ H2 : Heap, J_ x4 H2 → F_hotplug_Slot_Handle_k1 R s now x4 H2))) (
  iteB (event == (4 : Int)) (
  ∃ x9 : Int, rd H s = some (.int .i64 x9) ∧ (
  iteB (x9 == (4 : Int)) (
  letH (H.push (.cells #[.int .i64 (4 : Int)] t_int (0, 0))) (fun H7 : Heap =>
  CallsH Try.prog n_hotplug_Slot_enter #[.pointer (some s), .int .i64 (5 : Int), .slice (some (⟨H.size, 0, none⟩)) 1 1] H7 (fun v3 H8 =>
  ∃ x10 : Sl, ∃ x11 : Int, v3 = .tuple #[.slice x10.p x10.n x10.c, .int .i64 x11] ∧ (
  R (.tuple #[.slice x10.p x10.n x10.c, .int .i64 x11]) H8)))) (
  iteB (x9 == (3 : Int)) (
  letH (H.push (.cells #[.int .i64 (2 : Int)] t_int (0, 0))) (fun H9 : Heap =>
  CallsH Try.prog n_hotplug_Slot_enter #[.pointer (some s), .int .i64 (2 : Int), .slice (some (⟨H.size, 0, none⟩)) 1 1] H9 (fun v4 H10 =>
  ∃ x12 : Sl, ∃ x13 : Int, v4 = .tuple #[.slice x12.p x12.n x12.c, .int .i64 x13] ∧ (
  R (.tuple #[.slice x12.p x12.n x12.c, .int .i64 x13]) H10)))) (
  R (.tuple #[.slice none 0 0, .int .i64 (9 : Int)]) H)))) (
  iteB (event == (5 : Int)) (
  ∃ x14 : Int, rd H s = some (.int .i64 x14) ∧ (
  iteB (x14 == (5 : Int)) (
  letH (H.push (.cells #[.int .i64 (5 : Int), .int .i64 (2 : Int)] t_int (0, 0))) (fun H11 : Heap =>
  CallsH Try.prog n_hotplug_Slot_enter #[.pointer (some s), .int .i64 (2 : Int), .slice (some (⟨H.size, 0, none⟩)) 2 2] H11 (fun v5 H12 =>
  ∃ x15 : Sl, ∃ x16 : Int, v5 = .tuple #[.slice x15.p x15.n x15.c, .int .i64 x16] ∧ (
  R (.tuple #[.slice x15.p x15.n x15.c, .int .i64 x16]) H12)))) (
  R (.tuple #[.slice none 0 0, .int .i64 (9 : Int)]) H))) (
  iteB (event == (2 : Int)) (
  ∃ x17 : Int, rd H s = some (.int .i64 x17) ∧ (
  ∃ J_1 : Bool → Heap → Prop, (
  iteB (x17 == (2 : Int)) (
  J_1 true H) (
  J_1 (x17 == (6 : Int)) H)) ∧ (∀ x18 : Bool, ∀ H13 : Heap, J_1 x18 H13 → F_hotplug_Slot_Handle_k3 R s x17 x18 H13))) (
  iteB (event == (6 : Int)) (
  ∃ x26 : Int, rd H s = some (.int .i64 x26) ∧ (
  iteB (x26 == (3 : Int)) (
  letH (H.push (.cells #[.int .i64 (2 : Int)] t_int (0, 0))) (fun H20 : Heap =>
  CallsH Try.prog n_hotplug_Slot_enter #[.pointer (some s), .int .i64 (6 : Int), .slice (some (⟨H.size, 0, none⟩)) 1 1] H20 (fun v9 H21 =>
  ∃ x27 : Sl, ∃ x28 : Int, v9 = .tuple #[.slice x27.p x27.n x27.c, .int .i64 x28] ∧ (
  R (.tuple #[.slice x27.p x27.n x27.c, .int .i64 x28]) H21)))) (
  ∃ J_3 : Bool → Heap → Prop, (
  iteB (x26 == (4 : Int)) (
  J_3 true H) (
  J_3 (x26 == (5 : Int)) H)) ∧ (∀ x29 : Bool, ∀ H22 : Heap, J_3 x29 H22 → F_hotplug_Slot_Handle_k4 R s x29 H22)))) (
  R (.tuple #[.slice none 0 0, .int .i64 (1 : Int)]) H))))))

theorem F_hotplug_Slot_Handle_eq (R : Value → Heap → Prop) (s : Addr) (event : Int) (now : Int) (H : Heap) : wpF Try.prog Try.f12 [(26, .bool false), (81, .bool false), (95, .bool false), (116, .bool false)] [(10, [26], [0, 2]), (25, [81], [0, 80]), (30, [95], [0]), (37, [116], [0])] [] [.pointer (some s), .int .i64 event, .int .u64 now] H R = F_hotplug_Slot_Handle R s event now H := by kernel_rfl

theorem F_hotplug_Slot_Handle_ok {R : Value → Heap → Prop} (s : Addr) (event : Int) (now : Int) {H : Heap} (h : F_hotplug_Slot_Handle R s event now H) : CallsH Try.prog n_hotplug_Slot_Handle #[.pointer (some s), .int .i64 event, .int .u64 now] H R :=
  wpF_sound Try.func12 (Eq.mpr (F_hotplug_Slot_Handle_eq R s event now H) h)

/-! ### 13: (*platformfw/platformfwref21.Slot).Handle -/

def F_ref21_Slot_Handle_k1 (R : Value → Heap → Prop) (on : Bool) (H25 : Heap) : Prop :=
  iteB on (
  letH (H25.push (.cells #[.int .i64 (5 : Int), .int .i64 (2 : Int)] t_int (0, 0))) (fun H26 : Heap =>
  R (.tuple #[.slice (some (⟨H25.size, 0, none⟩)) 2 2, .int .i64 (0 : Int)]) H26)) (
  letH (H25.push (.cells #[.int .i64 (2 : Int)] t_int (0, 0))) (fun H27 : Heap =>
  R (.tuple #[.slice (some (⟨H25.size, 0, none⟩)) 1 1, .int .i64 (0 : Int)]) H27))

def F_ref21_Slot_Handle_k2 (R : Value → Heap → Prop) (s : Addr) (event : Int) (on : Bool) (x16 : Bool) (H22 : Heap) : Prop :=
  iteB x16 (
  okRow H22 s 1 ∧ (
  letH (wrs H22 s [.int .i64 (1 : Int)]) (fun H23 : Heap =>
  ∃ J_9 : Heap → Prop, (
  iteB (event == (6 : Int)) (
  okRow H23 s 1 ∧ (
  letH (wrs H23 s [.int .i64 (6 : Int)]) (fun H24 : Heap =>
  J_9 H24))) (
  J_9 H23)) ∧ (∀ H25 : Heap, J_9 H25 → F_ref21_Slot_Handle_k1 R on H25)))) (
  R (.tuple #[.slice none 0 0, .int .i64 (9 : Int)]) H22)

def F_ref21_Slot_Handle_k3 (R : Value → Heap → Prop) (s : Addr) (event : Int) (on : Bool) (x4 : Int) (x15 : Bool) (H20 : Heap) : Prop :=
  iteB x15 (
  okRow H20 s 1 ∧ (
  letH (wrs H20 s [.int .i64 (1 : Int)]) (fun H21 : Heap =>
  R (.tuple #[.slice none 0 0, .int .i64 (0 : Int)]) H21))) (
  ∃ J_8 : Bool → Heap → Prop, (
  iteB (event == (2 : Int)) (
  iteB (x4 == (3 : Int)) (
  J_8 true H20) (
  J_8 on H20)) (
  iteB (event == (6 : Int)) (
  iteB (x4 == (3 : Int)) (
  J_8 true H20) (
  J_8 on H20)) (
  J_8 false H20))) ∧ (∀ x16 : Bool, ∀ H22 : Heap, J_8 x16 H22 → F_ref21_Slot_Handle_k2 R s event on x16 H22))

def F_ref21_Slot_Handle_k4 (R : Value → Heap → Prop) (s : Addr) (event : Int) (on : Bool) (off : Bool) (x4 : Int) (x14 : Bool) (H17 : Heap) : Prop :=
  iteB x14 (
  okRow H17 s 1 ∧ (
  letH (wrs H17 s [.int .i64 (2 : Int)]) (fun H18 : Heap =>
  letH (H18.push (.cells #[.int .i64 (5 : Int), .int .i64 (2 : Int)] t_int (0, 0))) (fun H19 : Heap =>
  R (.tuple #[.slice (some (⟨H18.size, 0, none⟩)) 2 2, .int .i64 (0 : Int)]) H19)))) (
  ∃ J_7 : Bool → Heap → Prop, (
  iteB (event == (2 : Int)) (
  J_7 off H17) (
  J_7 false H17)) ∧ (∀ x15 : Bool, ∀ H20 : Heap, J_7 x15 H20 → F_ref21_Slot_Handle_k3 R s event on x4 x15 H20))

def F_ref21_Slot_Handle_k5 (R : Value → Heap → Prop) (s : Addr) (event : Int) (on : Bool) (off : Bool) (x4 : Int) (x12 : Bool) (H14 : Heap) : Prop :=
  iteB x12 (
  okRow H14 s 1 ∧ (
  letH (wrs H14 s [.int .i64 (2 : Int)]) (fun H15 : Heap =>
  letH (H15.push (.cells #[.int .i64 (2 : Int)] t_int (0, 0))) (fun H16 : Heap =>
  R (.tuple #[.slice (some (⟨H15.size, 0, none⟩)) 1 1, .int .i64 (0 : Int)]) H16)))) (
  ∃ J_6 : Bool → Heap → Prop, (
  iteB (event == (5 : Int)) (
  ∃ x13 : Int, rd H14 s = some (.int .i64 x13) ∧ (
  J_6 (x13 == (5 : Int)) H14)) (
  J_6 false H14)) ∧ (∀ x14 : Bool, ∀ H17 : Heap, J_6 x14 H17 → F_ref21_Slot_Handle_k4 R s event on off x4 x14 H17))

def F_ref21_Slot_Handle_k6 (R : Value → Heap → Prop) (s : Addr) (event : Int) (on : Bool) (off : Bool) (x4 : Int) (x11 : Bool) (H11 : Heap) : Prop :=
  iteB x11 (
  okRow H11 s 1 ∧ (
  letH (wrs H11 s [.int .i64 (5 : Int)]) (fun H12 : Heap =>
  letH (H12.push (.cells #[.int .i64 (4 : Int)] t_int (0, 0))) (fun H13 : Heap =>
  R (.tuple #[.slice (some (⟨H12.size, 0, none⟩)) 1 1, .int .i64 (0 : Int)]) H13)))) (
  ∃ J_5 : Bool → Heap → Prop, (
  iteB (event == (4 : Int)) (
  J_5 (x4 == (3 : Int)) H11) (
  J_5 false H11)) ∧ (∀ x12 : Bool, ∀ H14 : Heap, J_5 x12 H14 → F_ref21_Slot_Handle_k5 R s event on off x4 x12 H14))

def F_ref21_Slot_Handle_k7 (R : Value → Heap → Prop) (s : Addr) (event : Int) (now : Int) (on : Bool) (off : Bool) (x4 : Int) (x7 : Bool) (H5 : Heap) : Prop :=
  iteB x7 (
  ∃ x8 : Int, rd H5 (s.add 1) = some (.int .u64 x8) ∧ (
  okRow H5 s 1 ∧ (
  letH (wrs H5 s [.int .i64 (3 : Int)]) (fun H6 : Heap =>
  okRow H6 (s.add 2) 1 ∧ (
  letH (wrs H6 (s.add 2) [.int .u64 (IntKind.u64.wrap (now + x8))]) (fun H7 : Heap =>
  ∃ x9 : Int, rd H7 (s.add 2) = some (.int .u64 x9) ∧ (
  iteB (decide (x9 < now)) (
  okRow H7 (s.add 2) 1 ∧ (
  letH (wrs H7 (s.add 2) [.int .u64 (18446744073709551615 : Int)]) (fun H8 : Heap =>
  letH (H8.push (.cells #[.int .i64 (1 : Int)] t_int (0, 0))) (fun H9 : Heap =>
  R (.tuple #[.slice (some (⟨H8.size, 0, none⟩)) 1 1, .int .i64 (0 : Int)]) H9)))) (
  letH (H7.push (.cells #[.int .i64 (1 : Int)] t_int (0, 0))) (fun H10 : Heap =>
  R (.tuple #[.slice (some (⟨H7.size, 0, none⟩)) 1 1, .int .i64 (0 : Int)]) H10))))))))) (
  ∃ J_4 : Bool → Heap → Prop, (
  iteB (event == (4 : Int)) (
  ∃ x10 : Int, rd H5 s = some (.int .i64 x10) ∧ (
  J_4 (x10 == (4 : Int)) H5)) (
  J_4 false H5)) ∧ (∀ x11 : Bool, ∀ H11 : Heap, J_4 x11 H11 → F_ref21_Slot_Handle_k6 R s event on off x4 x11 H11))

def F_ref21_Slot_Handle_k8 (R : Value → Heap → Prop) (s : Addr) (event : Int) (now : Int) (on : Bool) (off : Bool) (x4 : Int) (x6 : Bool) (H3 : Heap) : Prop :=
  iteB x6 (
  okRow H3 s 1 ∧ (
  letH (wrs H3 s [.int .i64 (2 : Int)]) (fun H4 : Heap =>
  R (.tuple #[.slice none 0 0, .int .i64 (0 : Int)]) H4))) (
  ∃ J_3 : Bool → Heap → Prop, (
  iteB (event == (3 : Int)) (
  J_3 off H3) (
  J_3 false H3)) ∧ (∀ x7 : Bool, ∀ H5 : Heap, J_3 x7 H5 → F_ref21_Slot_Handle_k7 R s event now on off x4 x7 H5))

def F_ref21_Slot_Handle_k9 (R : Value → Heap → Prop) (s : Addr) (event : Int) (now : Int) (on : Bool) (off : Bool) (H2 : Heap) : Prop :=
  ∃ x4 : Int, rd H2 s = some (.int .i64 x4) ∧ (
  ∃ J_2 : Bool → Heap → Prop, (
  iteB (event == (1 : Int)) (
  ∃ x5 : Int, rd H2 s = some (.int .i64 x5) ∧ (
  J_2 (x5 == (1 : Int)) H2)) (
  J_2 false H2)) ∧ (∀ x6 : Bool, ∀ H3 : Heap, J_2 x6 H3 → F_ref21_Slot_Handle_k8 R s event now on off x4 x6 H3))

def F_ref21_Slot_Handle_k10 (R : Value → Heap → Prop) (s : Addr) (event : Int) (now : Int) (on : Bool) (H1 : Heap) : Prop :=
  ∃ J_1 : Bool → Heap → Prop, (
  ∃ x2 : Int, rd H1 s = some (.int .i64 x2) ∧ (
  iteB (x2 == (2 : Int)) (
  J_1 true H1) (
  ∃ x3 : Int, rd H1 s = some (.int .i64 x3) ∧ (
  J_1 (x3 == (6 : Int)) H1)))) ∧ (∀ off : Bool, ∀ H2 : Heap, J_1 off H2 → F_ref21_Slot_Handle_k9 R s event now on off H2)

def F_ref21_Slot_Handle (R : Value → Heap → Prop) (s : Addr) (event : Int) (now : Int) (H : Heap) : Prop :=
  iteB (decide (event < (1 : Int))) (
  R (.tuple #[.slice none 0 0, .int .i64 (1 : Int)]) H) (
  iteB (decide (event > (6 : Int))) (
  R (.tuple #[.slice none 0 0, .int .i64 (1 : Int)]) H) (
  ∃ J_ : Bool → Heap → Prop, (
  ∃ x : Int, rd H s = some (.int .i64 x) ∧ (
  iteB (x == (4 : Int)) (
  J_ true H) (
  ∃ x1 : Int, rd H s = some (.int .i64 x1) ∧ (
  J_ (x1 == (5 : Int)) H)))) ∧ (∀ on : Bool, ∀ H1 : Heap, J_ on H1 → F_ref21_Slot_Handle_k10 R s event now on H1)))

theorem F_ref21_Slot_Handle_eq (R : Value → Heap → Prop) (s : Addr) (event : Int) (now : Int) (H : Heap) : wpF Try.prog Try.f13 [(8, .bool false), (9, .bool false), (46, .bool false), (59, .bool false), (87, .bool false), (101, .bool false), (111, .bool false), (125, .bool false), (134, .bool false)] [(4, [8], [0, 1, 2]), (5, [9], [0, 1, 2, 8]), (7, [46], [0, 1, 2, 8, 9, 10]), (10, [59], [0, 1, 2, 8, 9, 10]), (15, [87], [0, 1, 8, 9, 10]), (18, [101], [0, 1, 8, 9, 10]), (21, [111], [0, 1, 8, 9, 10]), (24, [125], [0, 1, 8, 10]), (27, [134], [0, 1, 8]), (30, [], [8])] [] [.pointer (some s), .int .i64 event, .int .u64 now] H R = F_ref21_Slot_Handle R s event now H := by kernel_rfl

theorem F_ref21_Slot_Handle_ok {R : Value → Heap → Prop} (s : Addr) (event : Int) (now : Int) {H : Heap} (h : F_ref21_Slot_Handle R s event now H) : CallsH Try.prog n_ref21_Slot_Handle #[.pointer (some s), .int .i64 event, .int .u64 now] H R :=
  wpF_sound Try.func13 (Eq.mpr (F_ref21_Slot_Handle_eq R s event now H) h)

/-! ### 14: (*platformfw/hotplug.Slot).State -/

def F_hotplug_Slot_State (R : Value → Heap → Prop) (s : Addr) (H : Heap) : Prop :=
  ∃ x : Int, rd H s = some (.int .i64 x) ∧ (
  R (.int .i64 x) H)

theorem F_hotplug_Slot_State_eq (R : Value → Heap → Prop) (s : Addr) (H : Heap) : wpF Try.prog Try.f14 [] [] [] [.pointer (some s)] H R = F_hotplug_Slot_State R s H := by kernel_rfl

theorem F_hotplug_Slot_State_ok {R : Value → Heap → Prop} (s : Addr) {H : Heap} (h : F_hotplug_Slot_State R s H) : CallsH Try.prog n_hotplug_Slot_State #[.pointer (some s)] H R :=
  wpF_sound Try.func14 (Eq.mpr (F_hotplug_Slot_State_eq R s H) h)

/-! ### 15: (*platformfw/hotplug.Slot).enter -/

def F_hotplug_Slot_enter (R : Value → Heap → Prop) (s : Addr) (state : Int) (actions : Sl) (H : Heap) : Prop :=
  okRow H s 1 ∧ (
  letH (wrs H s [.int .i64 state]) (fun H1 : Heap =>
  iteB (state != (3 : Int)) (
  okRow H1 (s.add 2) 1 ∧ (
  letH (wrs H1 (s.add 2) [.int .u64 (0 : Int)]) (fun H2 : Heap =>
  R (.tuple #[.slice actions.p actions.n actions.c, .int .i64 (0 : Int)]) H2))) (
  R (.tuple #[.slice actions.p actions.n actions.c, .int .i64 (0 : Int)]) H1)))

theorem F_hotplug_Slot_enter_eq (R : Value → Heap → Prop) (s : Addr) (state : Int) (actions : Sl) (H : Heap) : wpF Try.prog Try.f15 [] [] [] [.pointer (some s), .int .i64 state, .slice actions.p actions.n actions.c] H R = F_hotplug_Slot_enter R s state actions H := by kernel_rfl

theorem F_hotplug_Slot_enter_ok {R : Value → Heap → Prop} (s : Addr) (state : Int) (actions : Sl) {H : Heap} (h : F_hotplug_Slot_enter R s state actions H) : CallsH Try.prog n_hotplug_Slot_enter #[.pointer (some s), .int .i64 state, .slice actions.p actions.n actions.c] H R :=
  wpF_sound Try.func15 (Eq.mpr (F_hotplug_Slot_enter_eq R s state actions H) h)

/-! ### 16: platformfw/hotplug.saturatingSum -/

def F_hotplug_saturatingSum (R : Value → Heap → Prop) (a : Int) (b : Int) (H : Heap) : Prop :=
  iteB (decide (a > (IntKind.u64.wrap ((18446744073709551615 : Int) - b)))) (
  R (.int .u64 (18446744073709551615 : Int)) H) (
  letV (IntKind.u64.wrap (a + b)) (fun x : Int =>
  R (.int .u64 x) H))

theorem F_hotplug_saturatingSum_eq (R : Value → Heap → Prop) (a : Int) (b : Int) (H : Heap) : wpF Try.prog Try.f16 [] [] [] [.int .u64 a, .int .u64 b] H R = F_hotplug_saturatingSum R a b H := by kernel_rfl

theorem F_hotplug_saturatingSum_ok {R : Value → Heap → Prop} (a : Int) (b : Int) {H : Heap} (h : F_hotplug_saturatingSum R a b H) : CallsH Try.prog n_hotplug_saturatingSum #[.int .u64 a, .int .u64 b] H R :=
  wpF_sound Try.func16 (Eq.mpr (F_hotplug_saturatingSum_eq R a b H) h)

end Go.Proofs.Ytdiopeomnpfiaaa
