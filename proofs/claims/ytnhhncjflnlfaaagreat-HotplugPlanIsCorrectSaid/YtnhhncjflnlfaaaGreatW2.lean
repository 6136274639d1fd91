/-
  The shallow readings of this seat's functions, written by a program (gen.py); the kernel holds each against the loaded program.
-/
import Derived.Test.YtnhhncjflnlfaaaGreatProg
import Derived.Test.YtnhhncjflnlfaaaGreatW1
namespace Go.Proofs.YtnhhncjflnlfaaaGreat
open Go.Eng
set_option linter.unusedVariables false
local notation:max "S%" x:max => Value.slice (Sl.p x) (Sl.n x) (Sl.c x)
local notation:max "I%" x:max => Value.int IntKind.i64 x
local notation:max "U%" x:max => Value.int IntKind.u64 x
local notation:max "Z%" => Value.int IntKind.i64 (0 : Int)
local notation:max "N%" => Value.slice none 0 0
local notation:max "&%" x:max => (Addr.mk (Array.size x) 0 none : Addr)
local notation:max "+%" x:max n:max => Addr.add (Addr.mk (Array.size x) 0 none) n
local notation:max "V%" => Value → Heap → Prop
local notation:max "P%" => Heap → Prop
local notation:max "M%" => Heap → Nat
local notation:max "W%" => IntKind.wrap IntKind.i64
local notation:max "w%" => IntKind.wrap IntKind.u64
local macro "i% " x:ident h:term:max a:term:max ", " b:term : term => `(∃ $x:ident : Int, rd $h $a = some (Value.int IntKind.i64 $x) ∧ $b)
local macro "u% " x:ident h:term:max a:term:max ", " b:term : term => `(∃ $x:ident : Int, rd $h $a = some (Value.int IntKind.u64 $x) ∧ $b)
local macro "s% " x:ident h:term:max a:term:max ", " b:term : term => `(∃ $x:ident : Sl, rd $h $a = some (Value.slice (Sl.p $x) (Sl.n $x) (Sl.c $x)) ∧ $b)
local macro "b% " x:ident h:term:max a:term:max ", " b:term : term => `(∃ $x:ident : Bool, rd $h $a = some (Value.bool $x) ∧ $b)
local macro "h% " x:ident v:term:max b:term:max : term => `(letH $v (fun $x : Heap => $b))
local macro "v% " x:ident v:term:max b:term:max : term => `(letV $v (fun $x : Int => $b))
local macro "x% " i:ident s:ident a:ident b:term:max : term => `(0 ≤ $i ∧ $i < (Sl.n $s : Int) ∧ (unSome (Sl.p $s) (fun $a => $b)))
local macro "j% " x0:ident x1:ident x2:ident x3:ident x4:ident x5:ident x6:ident x7:ident h:ident a:term:max ", " b:term : term => `(i% $x0 $h $a, s% $x1 $h (Addr.add $a 1), s% $x2 $h (Addr.add $a 2), s% $x3 $h (Addr.add $a 3), s% $x4 $h (Addr.add $a 4), s% $x5 $h (Addr.add $a 5), s% $x6 $h (Addr.add $a 6), s% $x7 $h (Addr.add $a 7), $b)
local macro "f% " x0:ident x1:ident x2:ident x3:ident x4:ident x5:ident x6:ident x7:ident x8:ident x9:ident x10:ident h:ident a:term:max ", " b:term : term => `(i% $x0 $h $a, i% $x1 $h (Addr.add $a 1), i% $x2 $h (Addr.add $a 2), i% $x3 $h (Addr.add $a 3), b% $x4 $h (Addr.add $a 4), b% $x5 $h (Addr.add $a 5), b% $x6 $h (Addr.add $a 6), i% $x7 $h (Addr.add $a 7), i% $x8 $h (Addr.add $a 8), i% $x9 $h (Addr.add $a 9), s% $x10 $h (Addr.add $a 10), $b)
local macro "a% " x0:ident x1:ident x2:ident x3:ident x4:ident h:ident a:term:max ", " b:term : term => `(i% $x0 $h $a, i% $x1 $h (Addr.add $a 1), i% $x2 $h (Addr.add $a 2), i% $x3 $h (Addr.add $a 3), u% $x4 $h (Addr.add $a 4), $b)
local macro "g% " x0:ident x1:ident x2:ident x3:ident x4:ident x5:ident x6:ident x7:ident : term => `(Value.agg #[I% $x0, S% $x1, S% $x2, S% $x3, S% $x4, S% $x5, S% $x6, S% $x7])

def F_hotplug_reassignmentMoves_k1 (I_2 : Sl → Int → P%) (M_2 : Sl → Int → M%) (moves2 : Sl) (x4 : Int) (H10 : Heap) (x13 : Bool) (H13 : Heap) : Prop :=
 iteB x13 (
 a% x14 x15 x16 x17 x18 H13 &%H10, (
 CallsH Tryz.prog n_hotplug_writeMove #[.agg #[I%x14, I%x15, I%x16, I%x17, U%x18]] H13 (fun v4 H14 =>
 ∃ x19 x20 : Int, ∃ x21 x22 : Int, v4 = .agg #[I%x19, I%x20, I%x21, U%x22] ∧ (
 h% H15 (H14.push (.cells #[I%x19, I%x20, I%x21, U%x22] t_api_Move (0, 0))) (
 runH Tryz.prog (Builtin.append_ #[t_sl_api_Move, t_sl_api_Move] t_sl_api_Move #[S%moves2, .slice (some &%H14) 1 1]) H15 (fun v5 H16 =>
 ∃ moves3 : Sl, v5 = S%moves3 ∧ (
 I_2 moves3 (W% (x4 + (1 : Int))) H16 ∧ M_2 moves3 (W% (x4 + (1 : Int))) H16 < M_2 moves2 x4 H10))))))) (
 I_2 moves2 (W% (x4 + (1 : Int))) H13 ∧ M_2 moves2 (W% (x4 + (1 : Int))) H13 < M_2 moves2 x4 H10)
def F_hotplug_reassignmentMoves_k2 (I_3 : Sl → Int → P%) (M_3 : Sl → Int → M%) (moves4 : Sl) (f6 : Int) (H17 : Heap) (x24 : Bool) (H18 : Heap) : Prop :=
 iteB x24 (
 h% H19 (H18.push (.cells #[I%(3 : Int), I%f6, Z%, U%(0 : Int)] t_api_Move (0, 0))) (
 runH Tryz.prog (Builtin.append_ #[t_sl_api_Move, t_sl_api_Move] t_sl_api_Move #[S%moves4, .slice (some &%H18) 1 1]) H19 (fun v6 H20 =>
 ∃ moves5 : Sl, v6 = S%moves5 ∧ (
 v% f7 (W% (f6 + (1 : Int))) (
 I_3 moves5 f7 H20 ∧ M_3 moves5 f7 H20 < M_3 moves4 f6 H17))))) (
 v% f8 (W% (f6 + (1 : Int))) (
 I_3 moves4 f8 H18 ∧ M_3 moves4 f8 H18 < M_3 moves4 f6 H17))
def F_hotplug_reassignmentMoves_r3 (R : V%) (count n : Int) (H2 : Heap) (I_3 : Sl → Int → P%) (M_3 : Sl → Int → M%) (moves4 : Sl) (f6 : Int) (H17 : Heap) : Prop :=
 iteB (decide (f6 < count)) (
 ∃ J_1 : Bool → P%, (
 iteB (decide (f6 ≥ n)) (
 J_1 true H17) (
 0 ≤ f6 ∧ f6 < (count.toNat : Int) ∧ (b% x23 H17 ((&%H2).add (f6.toNat * 1)), (
 J_1 x23 H17)))) ∧ (∀ x24 : Bool, ∀ H18 : Heap, J_1 x24 H18 → F_hotplug_reassignmentMoves_k2 I_3 M_3 moves4 f6 H17 x24 H18)) (
 R (S%moves4) H17)
def F_hotplug_reassignmentMoves_r4 (R : V%) (a : Sl) (count n : Int) (H2 : Heap) (I_2 : Sl → Int → P%) (M_2 : Sl → Int → M%) (moves2 : Sl) (x4 : Int) (H10 : Heap) : Prop :=
 iteB (decide (x4 < (a.n : Int))) (
 x% x4 a a3 ((
 a% x5 x6 x7 x8 x9 H10 (a3.add (x4.toNat * 5)), (
 h% H11 (H10.push (.cells #[Z%, Z%, Z%, Z%, U%(0 : Int)] t_api_Assignment (0, 0))) (
 okRow H11 &%H10 5 ∧ (
 h% H12 (wrs H11 &%H10 [I%x5, I%x6, I%x7, I%x8, U%x9]) (
 ∃ J_ : Bool → P%, (
 i% x10 H12 &%H10, (
 iteB (decide (x10 ≥ n)) (
 J_ true H12) (
 i% x11 H12 &%H10, (
 0 ≤ x11 ∧ x11 < (count.toNat : Int) ∧ (b% x12 H12 ((&%H2).add (x11.toNat * 1)), (
 J_ x12 H12)))))) ∧ (∀ x13 : Bool, ∀ H13 : Heap, J_ x13 H13 → F_hotplug_reassignmentMoves_k1 I_2 M_2 moves2 x4 H10 x13 H13)))))))) (
 ∃ I_3 : Sl → Int → P%, ∃ M_3 : Sl → Int → M%, I_3 moves2 (0 : Int) H10 ∧ (∀ moves4 : Sl, ∀ f6 : Int, ∀ H17 : Heap, I_3 moves4 f6 H17 → F_hotplug_reassignmentMoves_r3 R count n H2 I_3 M_3 moves4 f6 H17))
def F_hotplug_reassignmentMoves_r5 (R : V%) (a : Sl) (count n : Int) (H2 : Heap) (I_1 : Sl → Int → P%) (M_1 : Sl → Int → M%) (moves : Sl) (f3 : Int) (H7 : Heap) : Prop :=
 iteB (decide (f3 ≥ (0 : Int))) (
 0 ≤ f3 ∧ f3 < (count.toNat : Int) ∧ (b% x3 H7 ((&%H2).add (f3.toNat * 1)), (
 iteB x3 (
 h% H8 (H7.push (.cells #[I%(1 : Int), I%f3, Z%, U%(0 : Int)] t_api_Move (0, 0))) (
 runH Tryz.prog (Builtin.append_ #[t_sl_api_Move, t_sl_api_Move] t_sl_api_Move #[S%moves, .slice (some &%H7) 1 1]) H8 (fun v3 H9 =>
 ∃ moves1 : Sl, v3 = S%moves1 ∧ (
 v% f4 (W% (f3 - (1 : Int))) (
 I_1 moves1 f4 H9 ∧ M_1 moves1 f4 H9 < M_1 moves f3 H7))))) (
 v% f5 (W% (f3 - (1 : Int))) (
 I_1 moves f5 H7 ∧ M_1 moves f5 H7 < M_1 moves f3 H7))))) (
 ∃ I_2 : Sl → Int → P%, ∃ M_2 : Sl → Int → M%, I_2 moves (0 : Int) H7 ∧ (∀ moves2 : Sl, ∀ x4 : Int, ∀ H10 : Heap, I_2 moves2 x4 H10 → F_hotplug_reassignmentMoves_r4 R a count n H2 I_2 M_2 moves2 x4 H10))
def F_hotplug_reassignmentMoves_r6 (R : V%) (a : Sl) (count n : Int) (before : Sl) (H2 : Heap) (after : Sl) (I_ : Int → P%) (M_ : Int → M%) (f : Int) (H4 : Heap) : Prop :=
 iteB (decide (f < n)) (
 x% f before a1 ((
 s% x H4 (a1.add (f.toNat * 1)), (
 x% f after a2 ((
 s% x1 H4 (a2.add (f.toNat * 1)), (
 CallsH Tryz.prog n_slices_Equal_sl_api_Assignment_api_Assignment #[S%x, S%x1] H4 (fun v2 H5 =>
 ∃ x2 : Bool, v2 = .bool x2 ∧ (
 0 ≤ f ∧ f < (count.toNat : Int) ∧ (okRow H5 ((&%H2).add (f.toNat * 1)) 1 ∧ (
 h% H6 (wrs H5 ((&%H2).add (f.toNat * 1)) [.bool (!x2)]) (
 v% f1 (W% (f + (1 : Int))) (
 I_ f1 H6 ∧ M_ f1 H6 < M_ f H4))))))))))))) (
 v% f2 (W% (n - (1 : Int))) (
 ∃ I_1 : Sl → Int → P%, ∃ M_1 : Sl → Int → M%, I_1 (Sl.mk none 0 0) f2 H4 ∧ (∀ moves : Sl, ∀ f3 : Int, ∀ H7 : Heap, I_1 moves f3 H7 → F_hotplug_reassignmentMoves_r5 R a count n H2 I_1 M_1 moves f3 H7)))
def F_hotplug_reassignmentMoves (R : V%) (old a : Sl) (count n : Int) (H : Heap) : Prop :=
 CallsH Tryz.prog n_hotplug_byFunction #[S%old, I%count] H (fun v H1 =>
 ∃ before : Sl, v = S%before ∧ (
 CallsH Tryz.prog n_hotplug_byFunction #[S%a, I%count] H1 (fun v1 H2 =>
 ∃ after : Sl, v1 = S%after ∧ (
 0 ≤ count ∧ count ≤ count ∧ count * ((1 : Nat) : Int) ≤ 281474976710656 ∧ (
 h% H3 (H2.push (.cells (zeroRow (.bool false) count.toNat) t_bool (0, 0))) (
 ∃ I_ : Int → P%, ∃ M_ : Int → M%, I_ (0 : Int) H3 ∧ (∀ f : Int, ∀ H4 : Heap, I_ f H4 → F_hotplug_reassignmentMoves_r6 R a count n before H2 after I_ M_ f H4)))))))
theorem F_hotplug_reassignmentMoves_ok {R : V%} (old a : Sl) (count n : Int) {H : Heap} (h : F_hotplug_reassignmentMoves R old a count n H) : CallsH Tryz.prog n_hotplug_reassignmentMoves #[S%old, S%a, I%count, I%n] H R := wpF_ok Tryz.func35 (show wpF Tryz.prog Tryz.f35 [(12, I%0), (13, N%), (14, I%0), (17, I%0), (61, I%0), (77, .bool false), (97, .bool false)] [(17, [77], [2, 3, 11, 13, 16, 59, 60, 61]), (23, [97], [2, 3, 11, 13, 17])] [(4, [12], [1, 2, 3, 9, 10, 11]), (9, [13, 14], [1, 2, 3, 11]), (14, [13, 61], [2, 3, 11, 59, 60]), (20, [13, 17], [2, 3, 11])] [9] _ H R = F_hotplug_reassignmentMoves R old a count n H by kernel_rfl) h
def F_hotplug_NewSlot (R : V%) (present : Bool) (delay : Int) (H : Heap) : Prop :=
 iteB (decide (delay > (4294967296 : Int))) (
 R (.tuple #[.pointer none, I%(1 : Int)]) H) (
 h% H1 (H.push (.cells #[I%(1 : Int), U%delay, U%(0 : Int)] t_hotplug_Slot (0, 0))) (
 iteB present (
 okRow H1 &%H 1 ∧ (
 h% H2 (wrs H1 &%H [I%(2 : Int)]) (
 R (.tuple #[.pointer (some &%H), Z%]) H2))) (
 R (.tuple #[.pointer (some &%H), Z%]) H1)))
theorem F_hotplug_NewSlot_ok {R : V%} (present : Bool) (delay : Int) {H : Heap} (h : F_hotplug_NewSlot R present delay H) : CallsH Tryz.prog n_hotplug_NewSlot #[.bool present, U%delay] H R := wpF_ok Tryz.func40 (show wpF Tryz.prog Tryz.f40 [] [] [] [9] _ H R = F_hotplug_NewSlot R present delay H by kernel_rfl) h
def F_hotplug_Slot_Handle_k1 (R : V%) (s : Addr) (now : Int) (x4 : Bool) (H2 : Heap) : Prop :=
 iteB x4 (
 u% x5 H2 (s.add 1), (
 CallsH Tryz.prog n_hotplug_saturatingSum #[U%now, U%x5] H2 (fun v1 H3 =>
 ∃ x6 : Int, v1 = U%x6 ∧ (
 okRow H3 (s.add 2) 1 ∧ (
 h% H4 (wrs H3 (s.add 2) [U%x6]) (
 h% H5 (H4.push (.cells #[I%(1 : Int)] t_int (0, 0))) (
 CallsH Tryz.prog n_hotplug_Slot_enter #[.pointer (some s), I%(3 : Int), .slice (some &%H4) 1 1] H5 (fun v2 H6 =>
 ∃ x7 : Sl, ∃ x8 : Int, v2 = .tuple #[S%x7, I%x8] ∧ (
 R (.tuple #[S%x7, I%x8]) H6))))))))) (
 R (.tuple #[N%, I%(9 : Int)]) H2)
def F_hotplug_Slot_Handle_k2 (R : V%) (s : Addr) (x23 : Bool) (H17 : Heap) : Prop :=
 iteB x23 (
 h% H18 (H17.push (.cells #[I%(5 : Int), I%(2 : Int)] t_int (0, 0))) (
 CallsH Tryz.prog n_hotplug_Slot_enter #[.pointer (some s), I%(1 : Int), .slice (some &%H17) 2 2] H18 (fun v8 H19 =>
 ∃ x24 : Sl, ∃ x25 : Int, v8 = .tuple #[S%x24, I%x25] ∧ (
 R (.tuple #[S%x24, I%x25]) H19)))) (
 R (.tuple #[N%, I%(9 : Int)]) H17)
def F_hotplug_Slot_Handle_k3 (R : V%) (s : Addr) (x17 : Int) (x18 : Bool) (H13 : Heap) : Prop :=
 iteB x18 (
 CallsH Tryz.prog n_hotplug_Slot_enter #[.pointer (some s), I%(1 : Int), N%] H13 (fun v6 H14 =>
 ∃ x19 : Sl, ∃ x20 : Int, v6 = .tuple #[S%x19, I%x20] ∧ (
 R (.tuple #[S%x19, I%x20]) H14))) (
 iteB (x17 == (3 : Int)) (
 h% H15 (H13.push (.cells #[I%(2 : Int)] t_int (0, 0))) (
 CallsH Tryz.prog n_hotplug_Slot_enter #[.pointer (some s), I%(1 : Int), .slice (some &%H13) 1 1] H15 (fun v7 H16 =>
 ∃ x21 : Sl, ∃ x22 : Int, v7 = .tuple #[S%x21, I%x22] ∧ (
 R (.tuple #[S%x21, I%x22]) H16)))) (
 ∃ J_2 : Bool → P%, (
 iteB (x17 == (4 : Int)) (
 J_2 true H13) (
 J_2 (x17 == (5 : Int)) H13)) ∧ (∀ x23 : Bool, ∀ H17 : Heap, J_2 x23 H17 → F_hotplug_Slot_Handle_k2 R s x23 H17)))
def F_hotplug_Slot_Handle_k4 (R : V%) (s : Addr) (x29 : Bool) (H22 : Heap) : Prop :=
 iteB x29 (
 h% H23 (H22.push (.cells #[I%(5 : Int), I%(2 : Int)] t_int (0, 0))) (
 CallsH Tryz.prog n_hotplug_Slot_enter #[.pointer (some s), I%(6 : Int), .slice (some &%H22) 2 2] H23 (fun v10 H24 =>
 ∃ x30 : Sl, ∃ x31 : Int, v10 = .tuple #[S%x30, I%x31] ∧ (
 R (.tuple #[S%x30, I%x31]) H24)))) (
 R (.tuple #[N%, I%(9 : Int)]) H22)
def F_hotplug_Slot_Handle (R : V%) (s : Addr) (event now : Int) (H : Heap) : Prop :=
 iteB (event == (1 : Int)) (
 i% x H s, (
 iteB (x == (1 : Int)) (
 CallsH Tryz.prog n_hotplug_Slot_enter #[.pointer (some s), I%(2 : Int), N%] H (fun v H1 =>
 ∃ x1 : Sl, ∃ x2 : Int, v = .tuple #[S%x1, I%x2] ∧ (
 R (.tuple #[S%x1, I%x2]) H1))) (
 R (.tuple #[N%, I%(9 : Int)]) H))) (
 iteB (event == (3 : Int)) (
 i% x3 H s, (
 ∃ J_ : Bool → P%, (
 iteB (x3 == (2 : Int)) (
 J_ true H) (
 J_ (x3 == (6 : Int)) H)) ∧ (∀ x4 : Bool, ∀ H2 : Heap, J_ x4 H2 → F_hotplug_Slot_Handle_k1 R s now x4 H2))) (
 iteB (event == (4 : Int)) (
 i% x9 H s, (
 iteB (x9 == (4 : Int)) (
 h% H7 (H.push (.cells #[I%(4 : Int)] t_int (0, 0))) (
 CallsH Tryz.prog n_hotplug_Slot_enter #[.pointer (some s), I%(5 : Int), .slice (some &%H) 1 1] H7 (fun v3 H8 =>
 ∃ x10 : Sl, ∃ x11 : Int, v3 = .tuple #[S%x10, I%x11] ∧ (
 R (.tuple #[S%x10, I%x11]) H8)))) (
 iteB (x9 == (3 : Int)) (
 h% H9 (H.push (.cells #[I%(2 : Int)] t_int (0, 0))) (
 CallsH Tryz.prog n_hotplug_Slot_enter #[.pointer (some s), I%(2 : Int), .slice (some &%H) 1 1] H9 (fun v4 H10 =>
 ∃ x12 : Sl, ∃ x13 : Int, v4 = .tuple #[S%x12, I%x13] ∧ (
 R (.tuple #[S%x12, I%x13]) H10)))) (
 R (.tuple #[N%, I%(9 : Int)]) H)))) (
 iteB (event == (5 : Int)) (
 i% x14 H s, (
 iteB (x14 == (5 : Int)) (
 h% H11 (H.push (.cells #[I%(5 : Int), I%(2 : Int)] t_int (0, 0))) (
 CallsH Tryz.prog n_hotplug_Slot_enter #[.pointer (some s), I%(2 : Int), .slice (some &%H) 2 2] H11 (fun v5 H12 =>
 ∃ x15 : Sl, ∃ x16 : Int, v5 = .tuple #[S%x15, I%x16] ∧ (
 R (.tuple #[S%x15, I%x16]) H12)))) (
 R (.tuple #[N%, I%(9 : Int)]) H))) (
 iteB (event == (2 : Int)) (
 i% x17 H s, (
 ∃ J_1 : Bool → P%, (
 iteB (x17 == (2 : Int)) (
 J_1 true H) (
 J_1 (x17 == (6 : Int)) H)) ∧ (∀ x18 : Bool, ∀ H13 : Heap, J_1 x18 H13 → F_hotplug_Slot_Handle_k3 R s x17 x18 H13))) (
 iteB (event == (6 : Int)) (
 i% x26 H s, (
 iteB (x26 == (3 : Int)) (
 h% H20 (H.push (.cells #[I%(2 : Int)] t_int (0, 0))) (
 CallsH Tryz.prog n_hotplug_Slot_enter #[.pointer (some s), I%(6 : Int), .slice (some &%H) 1 1] H20 (fun v9 H21 =>
 ∃ x27 : Sl, ∃ x28 : Int, v9 = .tuple #[S%x27, I%x28] ∧ (
 R (.tuple #[S%x27, I%x28]) H21)))) (
 ∃ J_3 : Bool → P%, (
 iteB (x26 == (4 : Int)) (
 J_3 true H) (
 J_3 (x26 == (5 : Int)) H)) ∧ (∀ x29 : Bool, ∀ H22 : Heap, J_3 x29 H22 → F_hotplug_Slot_Handle_k4 R s x29 H22)))) (
 R (.tuple #[N%, I%(1 : Int)]) H))))))
theorem F_hotplug_Slot_Handle_ok {R : V%} (s : Addr) (event now : Int) {H : Heap} (h : F_hotplug_Slot_Handle R s event now H) : CallsH Tryz.prog n_hotplug_Slot_Handle #[.pointer (some s), I%event, U%now] H R := wpF_ok Tryz.func41 (show wpF Tryz.prog Tryz.f41 [(26, .bool false), (81, .bool false), (95, .bool false), (116, .bool false)] [(10, [26], [0, 2]), (25, [81], [0, 80]), (30, [95], [0]), (37, [116], [0])] [] [9] _ H R = F_hotplug_Slot_Handle R s event now H by kernel_rfl) h
def F_hotplug_Slot_Advance (R : V%) (s : Addr) (now : Int) (H : Heap) : Prop :=
 i% x H s, (
 iteB (x != (3 : Int)) (
 R (N%) H) (
 u% x1 H (s.add 2), (
 iteB (decide (now < x1)) (
 R (N%) H) (
 h% H1 (H.push (.cells #[I%(3 : Int)] t_int (0, 0))) (
 CallsH Tryz.prog n_hotplug_Slot_enter #[.pointer (some s), I%(4 : Int), .slice (some &%H) 1 1] H1 (fun v H2 =>
 ∃ x2 : Sl, ∃ x3 : Int, v = .tuple #[S%x2, I%x3] ∧ (
 R (S%x2) H2)))))))
theorem F_hotplug_Slot_Advance_ok {R : V%} (s : Addr) (now : Int) {H : Heap} (h : F_hotplug_Slot_Advance R s now H) : CallsH Tryz.prog n_hotplug_Slot_Advance #[.pointer (some s), U%now] H R := wpF_ok Tryz.func42 (show wpF Tryz.prog Tryz.f42 [] [] [] [9] _ H R = F_hotplug_Slot_Advance R s now H by kernel_rfl) h
def F_help_Equal_int_r1 (R : V%) (a b : Sl) (I_ : Int → P%) (M_ : Int → M%) (i : Int) (H1 : Heap) : Prop :=
 iteB (decide (i < (a.n : Int))) (
 x% i a a1 ((
 i% x H1 (a1.add (i.toNat * 1)), (
 x% i b a2 ((
 i% x1 H1 (a2.add (i.toNat * 1)), (
 iteB (x != x1) (
 R (.bool false) H1) (
 v% i1 (W% (i + (1 : Int))) (
 I_ i1 H1 ∧ M_ i1 H1 < M_ i H1))))))))) (
 R (.bool true) H1)
def F_help_Equal_int (R : V%) (a b : Sl) (H : Heap) : Prop :=
 iteB ((a.n : Int) != (b.n : Int)) (
 R (.bool false) H) (
 ∃ I_ : Int → P%, ∃ M_ : Int → M%, I_ (0 : Int) H ∧ (∀ i : Int, ∀ H1 : Heap, I_ i H1 → F_help_Equal_int_r1 R a b I_ M_ i H1))
theorem F_help_Equal_int_ok {R : V%} (a b : Sl) {H : Heap} (h : F_help_Equal_int R a b H) : CallsH Tryz.prog n_help_Equal_int #[S%a, S%b] H R := wpF_ok Tryz.func43 (show wpF Tryz.prog Tryz.f43 [(5, I%0)] [] [(4, [5], [0, 1])] [9] _ H R = F_help_Equal_int R a b H by kernel_rfl) h
def F_hotplug_Slot_State (R : V%) (s : Addr) (H : Heap) : Prop :=
 i% x H s, (
 R (I%x) H)
theorem F_hotplug_Slot_State_ok {R : V%} (s : Addr) {H : Heap} (h : F_hotplug_Slot_State R s H) : CallsH Tryz.prog n_hotplug_Slot_State #[.pointer (some s)] H R := wpF_ok Tryz.func44 (show wpF Tryz.prog Tryz.f44 [] [] [] [9] _ H R = F_hotplug_Slot_State R s H by kernel_rfl) h
def F_enumerate_Valid_k1 (R : V%) (H : Heap) (I_ : Int → P%) (M_ : Int → M%) (x : Int) (H2 H6 : Heap) : Prop :=
 i% x29 H6 &%H2, (
 i% x30 H6 (+%H2 1), (
 h% H7 (H6.push (.cells #[Z%, Z%] t_enumerate_place (0, 0))) (
 okRow H7 &%H6 2 ∧ (
 h% H8 (wrs H7 &%H6 [I%x29, I%x30]) (
 i% x31 H8 &%H6, i% x32 H8 (+%H6 1), (
 runH Tryz.prog (Instr.lookup t_map_enumerate_place_bool (.map (some H.size)) (.agg #[I%x31, I%x32]) false) H8 (fun v1 H9 =>
 ∃ x33 : Bool, v1 = .bool x33 ∧ (
 iteB x33 (
 R (.bool false) H9) (
 i% x34 H9 &%H6, i% x35 H9 (+%H6 1), (
 runH Tryz.prog (Instr.mapUpdate t_map_enumerate_place_bool (.map (some H.size)) (.agg #[I%x34, I%x35]) (.bool true)) H9 (fun _ H10 =>
 I_ (W% (x + (1 : Int))) H10 ∧ M_ (W% (x + (1 : Int))) H10 < M_ x H2)))))))))))
def F_enumerate_Valid_r2 (R : V%) (H : Heap) (l : Sl) (I_ : Int → P%) (M_ : Int → M%) (x : Int) (H2 : Heap) : Prop :=
 iteB (decide (x < (l.n : Int))) (
 x% x l a ((
 f% x1 x2 x3 x4 x5 x6 x7 x8 x9 x10 x11 H2 (a.add (x.toNat * 11)), (
 h% H3 (H2.push (.cells #[Z%, Z%, Z%, Z%, .bool false, .bool false, .bool false, Z%, Z%, Z%, N%] t_api_Function (0, 0))) (
 okRow H3 &%H2 11 ∧ (
 h% H4 (wrs H3 &%H2 [I%x1, I%x2, I%x3, I%x4, .bool x5, .bool x6, .bool x7, I%x8, I%x9, I%x10, S%x11]) (
 f% x12 x13 x14 x15 x16 x17 x18 x19 x20 x21 x22 H4 &%H2, (
 CallsH Tryz.prog n_pciconf_Valid #[.agg #[I%x12, I%x13, I%x14, I%x15, .bool x16, .bool x17, .bool x18, I%x19, I%x20, I%x21, S%x22]] H4 (fun v H5 =>
 ∃ x23 : Bool, v = .bool x23 ∧ (
 iteB (!x23) (
 R (.bool false) H5) (
 i% x24 H5 &%H2, (
 iteB (decide (x24 < (-1 : Int))) (
 R (.bool false) H5) (
 i% x25 H5 &%H2, (
 iteB (decide (x25 ≥ x)) (
 R (.bool false) H5) (
 ∃ J_ : P%, (
 i% x26 H5 &%H2, (
 iteB (decide (x26 ≥ (0 : Int))) (
 i% x27 H5 &%H2, (
 x% x27 l a1 ((
 b% x28 H5 ((a1.add (x27.toNat * 11)).add 4), (
 iteB (!x28) (
 R (.bool false) H5) (
 J_ H5)))))) (
 J_ H5))) ∧ (∀ H6 : Heap, J_ H6 → F_enumerate_Valid_k1 R H I_ M_ x H2 H6)))))))))))))))) (
 R (.bool true) H2)
def F_enumerate_Valid (R : V%) (l : Sl) (H : Heap) : Prop :=
 iteB (decide ((l.n : Int) > (64 : Int))) (
 R (.bool false) H) (
 h% H1 (H.push (.map #[] 0)) (
 ∃ I_ : Int → P%, ∃ M_ : Int → M%, I_ (0 : Int) H1 ∧ (∀ x : Int, ∀ H2 : Heap, I_ x H2 → F_enumerate_Valid_r2 R H l I_ M_ x H2)))
theorem F_enumerate_Valid_ok {R : V%} (l : Sl) {H : Heap} (h : F_enumerate_Valid R l H) : CallsH Tryz.prog n_enumerate_Valid #[S%l] H R := wpF_ok Tryz.func45 (show wpF Tryz.prog Tryz.f45 [(13, I%0)] [(11, [], [0, 3, 5, 11, 12, 13])] [(5, [13], [0, 3, 11, 12])] [9] _ H R = F_enumerate_Valid R l H by kernel_rfl) h
def F_allocate_ValidHost_r1 (R : V%) (H : Heap) (x19 : Sl) (I_1 : Int → P%) (M_1 : Int → M%) (x20 : Int) (H9 : Heap) : Prop :=
 iteB (decide (x20 < (x19.n : Int))) (
 x% x20 x19 a ((
 i% x21 H9 (a.add (x20.toNat * 3)), i% x22 H9 ((a.add (x20.toNat * 3)).add 1), i% x23 H9 ((a.add (x20.toNat * 3)).add 2), (
 h% H10 (H9.push (.cells #[Z%, Z%, Z%] t_api_Route (0, 0))) (
 okRow H10 &%H9 3 ∧ (
 h% H11 (wrs H10 &%H9 [I%x21, I%x22, I%x23]) (
 i% x24 H11 &%H9, (
 iteB (decide (x24 < (0 : Int))) (
 R (.bool false) H11) (
 i% x25 H11 &%H9, (
 iteB (decide (x25 > (31 : Int))) (
 R (.bool false) H11) (
 i% x26 H11 (+%H9 1), (
 iteB (decide (x26 < (1 : Int))) (
 R (.bool false) H11) (
 i% x27 H11 (+%H9 1), (
 iteB (decide (x27 > (4 : Int))) (
 R (.bool false) H11) (
 i% x28 H11 (+%H9 2), (
 iteB (decide (x28 < (0 : Int))) (
 R (.bool false) H11) (
 i% x29 H11 (+%H9 2), (
 s% x30 H11 (+%H 6), (
 iteB (decide (x29 ≥ (x30.n : Int))) (
 R (.bool false) H11) (
 I_1 (W% (x20 + (1 : Int))) H11 ∧ M_1 (W% (x20 + (1 : Int))) H11 < M_1 x20 H9)))))))))))))))))))) (
 R (.bool true) H9)
def F_allocate_ValidHost_r2 (R : V%) (H H1 : Heap) (I_ : Int → P%) (M_ : Int → M%) (x7 : Int) (H3 : Heap) : Prop :=
 iteB (decide (x7 < (5 : Int))) (
 0 ≤ x7 ∧ x7 < (5 : Int) ∧ (s% l H3 ((&%H1).add (x7.toNat * 1)), (
 iteB (decide ((l.n : Int) > (16 : Int))) (
 R (.bool false) H3) (
 CallsH Tryz.prog n_allocate_validRanges #[S%l] H3 (fun v H4 =>
 ∃ x8 : Bool, v = .bool x8 ∧ (
 iteB (!x8) (
 R (.bool false) H4) (
 I_ (W% (x7 + (1 : Int))) H4 ∧ M_ (W% (x7 + (1 : Int))) H4 < M_ x7 H3))))))) (
 s% x9 H3 (+%H 1), (
 CallsH Tryz.prog n_allocate_within #[S%x9, U%(0 : Int), U%(65536 : Int)] H3 (fun v1 H5 =>
 ∃ x10 : Bool, v1 = .bool x10 ∧ (
 iteB (!x10) (
 R (.bool false) H5) (
 s% x11 H5 (+%H 4), (
 CallsH Tryz.prog n_allocate_within #[S%x11, U%(0 : Int), U%(65536 : Int)] H5 (fun v2 H6 =>
 ∃ x12 : Bool, v2 = .bool x12 ∧ (
 iteB (!x12) (
 R (.bool false) H6) (
 s% x13 H6 (+%H 2), (
 CallsH Tryz.prog n_allocate_within #[S%x13, U%(0 : Int), U%(4294967296 : Int)] H6 (fun v3 H7 =>
 ∃ x14 : Bool, v3 = .bool x14 ∧ (
 iteB (!x14) (
 R (.bool false) H7) (
 s% x15 H7 (+%H 3), (
 CallsH Tryz.prog n_allocate_within #[S%x15, U%(4294967296 : Int), U%(4503599627370496 : Int)] H7 (fun v4 H8 =>
 ∃ x16 : Bool, v4 = .bool x16 ∧ (
 iteB (!x16) (
 R (.bool false) H8) (
 s% x17 H8 (+%H 6), (
 iteB (decide ((x17.n : Int) > (16 : Int))) (
 R (.bool false) H8) (
 s% x18 H8 (+%H 7), (
 iteB (decide ((x18.n : Int) > (128 : Int))) (
 R (.bool false) H8) (
 s% x19 H8 (+%H 7), (
 ∃ I_1 : Int → P%, ∃ M_1 : Int → M%, I_1 (0 : Int) H8 ∧ (∀ x20 : Int, ∀ H9 : Heap, I_1 x20 H9 → F_allocate_ValidHost_r1 R H x19 I_1 M_1 x20 H9)))))))))))))))))))))))
def F_allocate_ValidHost (R : V%) (h_0 : Int) (h_1 h_2 h_3 h_4 h_5 h_6 h_7 : Sl) (H : Heap) : Prop :=
 h% H1 (H.push (.cells #[I%h_0, S%h_1, S%h_2, S%h_3, S%h_4, S%h_5, S%h_6, S%h_7] t_api_Host (0, 0))) (
 i% x H1 &%H, (
 iteB (decide (x < (1 : Int))) (
 R (.bool false) H1) (
 i% x1 H1 &%H, (
 iteB (decide (x1 > (256 : Int))) (
 R (.bool false) H1) (
 s% x2 H1 (+%H 1), (
 s% x3 H1 (+%H 2), (
 s% x4 H1 (+%H 3), (
 s% x5 H1 (+%H 4), (
 s% x6 H1 (+%H 5), (
 h% H2 (H1.push (.cells #[S%x2, S%x3, S%x4, S%x5, S%x6] t_sl_api_Range (0, 0))) (
 ∃ I_ : Int → P%, ∃ M_ : Int → M%, I_ (0 : Int) H2 ∧ (∀ x7 : Int, ∀ H3 : Heap, I_ x7 H3 → F_allocate_ValidHost_r2 R H H1 I_ M_ x7 H3))))))))))))
theorem F_allocate_ValidHost_ok {R : V%} (h_0 : Int) (h_1 h_2 h_3 h_4 h_5 h_6 h_7 : Sl) {H : Heap} (h : F_allocate_ValidHost R h_0 h_1 h_2 h_3 h_4 h_5 h_6 h_7 H) : CallsH Tryz.prog n_allocate_ValidHost #[(g% h_0 h_1 h_2 h_3 h_4 h_5 h_6 h_7)] H R := wpF_ok Tryz.func46 (show wpF Tryz.prog Tryz.f46 [(27, I%0), (73, I%0)] [] [(4, [27], [1, 25, 26]), (16, [73], [1, 71, 72])] [9] _ H R = F_allocate_ValidHost R h_0 h_1 h_2 h_3 h_4 h_5 h_6 h_7 H by kernel_rfl) h
def F_allocate_covers_r1 (R : V%) (a x : Sl) (I_ : Int → P%) (M_ : Int → M%) (x2 : Int) (H2 : Heap) : Prop :=
 iteB (decide (x2 < (x.n : Int))) (
 x% x2 x a1 ((
 i% x3 H2 (a1.add (x2.toNat * 4)), i% x4 H2 ((a1.add (x2.toNat * 4)).add 1), i% x5 H2 ((a1.add (x2.toNat * 4)).add 2), i% x6 H2 ((a1.add (x2.toNat * 4)).add 3), (
 h% H3 (H2.push (.cells #[Z%, Z%, Z%, Z%] t_api_Need (0, 0))) (
 okRow H3 &%H2 4 ∧ (
 h% H4 (wrs H3 &%H2 [I%x3, I%x4, I%x5, I%x6]) (
 x% x2 a a2 ((
 i% x7 H4 (a2.add (x2.toNat * 5)), i% x8 H4 ((a2.add (x2.toNat * 5)).add 1), i% x9 H4 ((a2.add (x2.toNat * 5)).add 2), i% x10 H4 ((a2.add (x2.toNat * 5)).add 3), (
 i% x11 H4 &%H2, i% x12 H4 (+%H2 1), i% x13 H4 (+%H2 2), i% x14 H4 (+%H2 3), (
 iteB (!((x7 == x11) && ((x8 == x12) && ((x9 == x13) && ((x10 == x14) && true))))) (
 R (.bool false) H4) (
 I_ (W% (x2 + (1 : Int))) H4 ∧ M_ (W% (x2 + (1 : Int))) H4 < M_ x2 H2)))))))))))) (
 R (.bool true) H2)
def F_allocate_covers (R : V%) (l : Sl) (high : Bool) (a : Sl) (H : Heap) : Prop :=
 CallsH Tryz.prog n_resources_Needs #[S%l, .bool high] H (fun v H1 =>
 ∃ x : Sl, ∃ x1 : Int, v = .tuple #[S%x, I%x1] ∧ (
 iteB (x1 != (0 : Int)) (
 R (.bool false) H1) (
 iteB ((x.n : Int) != (a.n : Int)) (
 R (.bool false) H1) (
 ∃ I_ : Int → P%, ∃ M_ : Int → M%, I_ (0 : Int) H1 ∧ (∀ x2 : Int, ∀ H2 : Heap, I_ x2 H2 → F_allocate_covers_r1 R a x I_ M_ x2 H2)))))
theorem F_allocate_covers_ok {R : V%} (l : Sl) (high : Bool) (a : Sl) {H : Heap} (h : F_allocate_covers R l high a H) : CallsH Tryz.prog n_allocate_covers #[S%l, .bool high, S%a] H R := wpF_ok Tryz.func47 (show wpF Tryz.prog Tryz.f47 [(28, I%0)] [] [(5, [28], [2, 26, 27])] [9] _ H R = F_allocate_covers R l high a H by kernel_rfl) h
def F_allocate_hostFree (R : V%) (h_0 : Int) (h_1 h_2 h_3 h_4 h_5 h_6 h_7 : Sl) (classv : Int) (H : Heap) : Prop :=
 h% H1 (H.push (.cells #[I%h_0, S%h_1, S%h_2, S%h_3, S%h_4, S%h_5, S%h_6, S%h_7] t_api_Host (0, 0))) (
 iteB (classv == (0 : Int)) (
 s% x H1 (+%H 1), (
 s% x1 H1 (+%H 4), (
 CallsH Tryz.prog n_allocate_Free #[S%x, S%x1] H1 (fun v H2 =>
 ∃ x2 : Sl, v = S%x2 ∧ (
 R (S%x2) H2))))) (
 iteB (classv == (1 : Int)) (
 s% x3 H1 (+%H 2), (
 s% x4 H1 (+%H 5), (
 CallsH Tryz.prog n_allocate_Free #[S%x3, S%x4] H1 (fun v1 H3 =>
 ∃ x5 : Sl, v1 = S%x5 ∧ (
 R (S%x5) H3))))) (
 s% x6 H1 (+%H 3), (
 s% x7 H1 (+%H 5), (
 CallsH Tryz.prog n_allocate_Free #[S%x6, S%x7] H1 (fun v2 H4 =>
 ∃ x8 : Sl, v2 = S%x8 ∧ (
 R (S%x8) H4)))))))
theorem F_allocate_hostFree_ok {R : V%} (h_0 : Int) (h_1 h_2 h_3 h_4 h_5 h_6 h_7 : Sl) (classv : Int) {H : Heap} (h : F_allocate_hostFree R h_0 h_1 h_2 h_3 h_4 h_5 h_6 h_7 classv H) : CallsH Tryz.prog n_allocate_hostFree #[(g% h_0 h_1 h_2 h_3 h_4 h_5 h_6 h_7), I%classv] H R := wpF_ok Tryz.func48 (show wpF Tryz.prog Tryz.f48 [] [] [] [9] _ H R = F_allocate_hostFree R h_0 h_1 h_2 h_3 h_4 h_5 h_6 h_7 classv H by kernel_rfl) h
def F_allocate_window_k1 (R : V%) (I_ : Int → P%) (M_ : Int → M%) (x : Int) (H1 : Heap) (x8 : Bool) (H4 : Heap) : Prop :=
 iteB x8 (
 u% x9 H4 (+%H1 4), (
 i% x10 H4 (+%H1 3), (
 0 ≤ x10 ∧ (
 v% x11 (w% ((1 : Int) * 2 ^ (min x10.toNat IntKind.u64.bits))) (
 R (.tuple #[U%x9, U%x11, .bool true]) H4))))) (
 I_ (W% (x + (1 : Int))) H4 ∧ M_ (W% (x + (1 : Int))) H4 < M_ x H1)
def F_allocate_window_r2 (R : V%) (a : Sl) (bridge classv : Int) (I_ : Int → P%) (M_ : Int → M%) (x : Int) (H1 : Heap) : Prop :=
 iteB (decide (x < (a.n : Int))) (
 x% x a a1 ((
 a% x1 x2 x3 x4 x5 H1 (a1.add (x.toNat * 5)), (
 h% H2 (H1.push (.cells #[Z%, Z%, Z%, Z%, U%(0 : Int)] t_api_Assignment (0, 0))) (
 okRow H2 &%H1 5 ∧ (
 h% H3 (wrs H2 &%H1 [I%x1, I%x2, I%x3, I%x4, U%x5]) (
 ∃ J_ : Bool → P%, (
 i% x6 H3 &%H1, (
 iteB (x6 == bridge) (
 i% x7 H3 (+%H1 1), (
 J_ (x7 == (W% ((-1 : Int) - classv))) H3)) (
 J_ false H3))) ∧ (∀ x8 : Bool, ∀ H4 : Heap, J_ x8 H4 → F_allocate_window_k1 R I_ M_ x H1 x8 H4)))))))) (
 R (.tuple #[U%(0 : Int), U%(0 : Int), .bool false]) H1)
def F_allocate_window (R : V%) (a : Sl) (bridge classv : Int) (H : Heap) : Prop :=
 ∃ I_ : Int → P%, ∃ M_ : Int → M%, I_ (0 : Int) H ∧ (∀ x : Int, ∀ H1 : Heap, I_ x H1 → F_allocate_window_r2 R a bridge classv I_ M_ x H1)
theorem F_allocate_window_ok {R : V%} (a : Sl) (bridge classv : Int) {H : Heap} (h : F_allocate_window R a bridge classv H) : CallsH Tryz.prog n_allocate_window #[S%a, I%bridge, I%classv] H R := wpF_ok Tryz.func49 (show wpF Tryz.prog Tryz.f49 [(13, I%0), (29, .bool false)] [(5, [29], [1, 2, 10, 11, 12, 13])] [(2, [13], [1, 2, 11, 12])] [9] _ H R = F_allocate_window R a bridge classv H by kernel_rfl) h
def F_allocate_inside_r1 (R : V%) (l : Sl) (base size : Int) (I_ : Int → P%) (M_ : Int → M%) (x : Int) (H1 : Heap) : Prop :=
 iteB (decide (x < (l.n : Int))) (
 x% x l a ((
 u% x1 H1 (a.add (x.toNat * 2)), u% x2 H1 ((a.add (x.toNat * 2)).add 1), (
 h% H2 (H1.push (.cells #[U%(0 : Int), U%(0 : Int)] t_api_Range (0, 0))) (
 okRow H2 &%H1 2 ∧ (
 h% H3 (wrs H2 &%H1 [U%x1, U%x2]) (
 u% x3 H3 &%H1, (
 iteB (decide (base ≥ x3)) (
 u% x4 H3 (+%H1 1), (
 iteB (decide (size ≤ x4)) (
 u% x5 H3 &%H1, (
 u% x6 H3 (+%H1 1), (
 iteB (decide ((w% (base - x5)) ≤ (w% (x6 - size)))) (
 R (.bool true) H3) (
 I_ (W% (x + (1 : Int))) H3 ∧ M_ (W% (x + (1 : Int))) H3 < M_ x H1)))) (
 I_ (W% (x + (1 : Int))) H3 ∧ M_ (W% (x + (1 : Int))) H3 < M_ x H1))) (
 I_ (W% (x + (1 : Int))) H3 ∧ M_ (W% (x + (1 : Int))) H3 < M_ x H1))))))))) (
 R (.bool false) H1)
def F_allocate_inside (R : V%) (l : Sl) (base size : Int) (H : Heap) : Prop :=
 ∃ I_ : Int → P%, ∃ M_ : Int → M%, I_ (0 : Int) H ∧ (∀ x : Int, ∀ H1 : Heap, I_ x H1 → F_allocate_inside_r1 R l base size I_ M_ x H1)
theorem F_allocate_inside_ok {R : V%} (l : Sl) (base size : Int) {H : Heap} (h : F_allocate_inside R l base size H) : CallsH Tryz.prog n_allocate_inside #[S%l, U%base, U%size] H R := wpF_ok Tryz.func50 (show wpF Tryz.prog Tryz.f50 [(11, I%0)] [] [(2, [11], [1, 2, 9, 10])] [9] _ H R = F_allocate_inside R l base size H by kernel_rfl) h
def F_allocate_overlap_k1 (R : V%) (H H1 H5 : Heap) : Prop :=
 u% x12 H5 (+%H 4), (
 u% x13 H5 (+%H1 4), (
 i% x14 H5 (+%H1 3), (
 0 ≤ x14 ∧ (
 R (.bool (decide ((w% (x12 - x13)) < (w% ((1 : Int) * 2 ^ (min x14.toNat IntKind.u64.bits)))))) H5))))
def F_allocate_overlap (R : V%) (x_0 x_1 x_2 x_3 x_4 y_0 y_1 y_2 y_3 y_4 : Int) (H : Heap) : Prop :=
 h% H1 (H.push (.cells #[I%x_0, I%x_1, I%x_2, I%x_3, U%x_4] t_api_Assignment (0, 0))) (
 h% H2 (H1.push (.cells #[I%y_0, I%y_1, I%y_2, I%y_3, U%y_4] t_api_Assignment (0, 0))) (
 ∃ J_ : P%, (
 u% x H2 (+%H 4), (
 u% x1 H2 (+%H1 4), (
 iteB (decide (x < x1)) (
 a% x2 x3 x4 x5 x6 H2 &%H1, (
 a% x7 x8 x9 x10 x11 H2 &%H, (
 okRow H2 &%H 5 ∧ (
 h% H3 (wrs H2 &%H [I%x2, I%x3, I%x4, I%x5, U%x6]) (
 okRow H3 &%H1 5 ∧ (
 h% H4 (wrs H3 &%H1 [I%x7, I%x8, I%x9, I%x10, U%x11]) (
 J_ H4))))))) (
 J_ H2)))) ∧ (∀ H5 : Heap, J_ H5 → F_allocate_overlap_k1 R H H1 H5)))
theorem F_allocate_overlap_ok {R : V%} (x_0 x_1 x_2 x_3 x_4 y_0 y_1 y_2 y_3 y_4 : Int) {H : Heap} (h : F_allocate_overlap R x_0 x_1 x_2 x_3 x_4 y_0 y_1 y_2 y_3 y_4 H) : CallsH Tryz.prog n_allocate_overlap #[.agg #[I%x_0, I%x_1, I%x_2, I%x_3, U%x_4], .agg #[I%y_0, I%y_1, I%y_2, I%y_3, U%y_4]] H R := wpF_ok Tryz.func51 (show wpF Tryz.prog Tryz.f51 [] [(3, [], [2, 3])] [] [9] _ H R = F_allocate_overlap R x_0 x_1 x_2 x_3 x_4 y_0 y_1 y_2 y_3 y_4 H by kernel_rfl) h
def F_ref18_Valid_r1 (R : V%) (l : Sl) (I_ : Int → P%) (M_ : Int → M%) (i : Int) (H1 : Heap) (I_1 : Int → P%) (M_1 : Int → M%) (k : Int) (H4 : Heap) : Prop :=
 iteB (decide (k < i)) (
 x% k l a6 ((
 i% x17 H4 (a6.add (k.toNat * 11)), (
 x% i l a7 ((
 i% x18 H4 (a7.add (i.toNat * 11)), (
 iteB (x17 == x18) (
 x% k l a8 ((
 i% x19 H4 ((a8.add (k.toNat * 11)).add 1), (
 x% i l a9 ((
 i% x20 H4 ((a9.add (i.toNat * 11)).add 1), (
 iteB (x19 == x20) (
 R (.bool false) H4) (
 v% k1 (W% (k + (1 : Int))) (
 I_1 k1 H4 ∧ M_1 k1 H4 < M_1 k H4))))))))) (
 v% k2 (W% (k + (1 : Int))) (
 I_1 k2 H4 ∧ M_1 k2 H4 < M_1 k H4))))))))) (
 v% i1 (W% (i + (1 : Int))) (
 I_ i1 H4 ∧ M_ i1 H4 < M_ i H1))
def F_ref18_Valid_k2 (R : V%) (l : Sl) (I_ : Int → P%) (M_ : Int → M%) (i : Int) (H1 H3 : Heap) : Prop :=
 ∃ I_1 : Int → P%, ∃ M_1 : Int → M%, I_1 (0 : Int) H3 ∧ (∀ k : Int, ∀ H4 : Heap, I_1 k H4 → F_ref18_Valid_r1 R l I_ M_ i H1 I_1 M_1 k H4)
def F_ref18_Valid_r3 (R : V%) (l : Sl) (I_ : Int → P%) (M_ : Int → M%) (i : Int) (H1 : Heap) : Prop :=
 iteB (decide (i < (l.n : Int))) (
 ∃ J_ : P%, (
 x% i l a ((
 f% x x1 x2 x3 x4 x5 x6 x7 x8 x9 x10 H1 (a.add (i.toNat * 11)), (
 CallsH Tryz.prog n_ref18_ValidFunction #[.agg #[I%x, I%x1, I%x2, I%x3, .bool x4, .bool x5, .bool x6, I%x7, I%x8, I%x9, S%x10]] H1 (fun v H2 =>
 ∃ x11 : Bool, v = .bool x11 ∧ (
 iteB (!x11) (
 R (.bool false) H2) (
 x% i l a1 ((
 i% x12 H2 (a1.add (i.toNat * 11)), (
 iteB (decide (x12 < (-1 : Int))) (
 R (.bool false) H2) (
 x% i l a2 ((
 i% x13 H2 (a2.add (i.toNat * 11)), (
 iteB (decide (x13 ≥ i)) (
 R (.bool false) H2) (
 x% i l a3 ((
 i% x14 H2 (a3.add (i.toNat * 11)), (
 iteB (decide (x14 ≥ (0 : Int))) (
 x% i l a4 ((
 i% x15 H2 (a4.add (i.toNat * 11)), (
 x% x15 l a5 ((
 b% x16 H2 ((a5.add (x15.toNat * 11)).add 4), (
 iteB (!x16) (
 R (.bool false) H2) (
 J_ H2)))))))) (
 J_ H2))))))))))))))))))) ∧ (∀ H3 : Heap, J_ H3 → F_ref18_Valid_k2 R l I_ M_ i H1 H3)) (
 R (.bool true) H1)
def F_ref18_Valid (R : V%) (l : Sl) (H : Heap) : Prop :=
 iteB (decide ((l.n : Int) > (64 : Int))) (
 R (.bool false) H) (
 ∃ I_ : Int → P%, ∃ M_ : Int → M%, I_ (0 : Int) H ∧ (∀ i : Int, ∀ H1 : Heap, I_ i H1 → F_ref18_Valid_r3 R l I_ M_ i H1))
theorem F_ref18_Valid_ok {R : V%} (l : Sl) {H : Heap} (h : F_ref18_Valid R l H) : CallsH Tryz.prog n_ref18_Valid #[S%l] H R := wpF_ok Tryz.func52 (show wpF Tryz.prog Tryz.f52 [(3, I%0), (4, I%0)] [(8, [], [0, 3])] [(4, [3], [0]), (9, [4], [0, 3])] [9] _ H R = F_ref18_Valid R l H by kernel_rfl) h
def F_ref18_Class (R : V%) (l : Sl) (high : Bool) (i k : Int) (H : Heap) : Prop :=
 CallsH Tryz.prog n_ref18_Valid #[S%l] H (fun v H1 =>
 ∃ x : Bool, v = .bool x ∧ (
 iteB (!x) (
 R (.tuple #[Z%, .bool false]) H1) (
 iteB (decide (i < (0 : Int))) (
 R (.tuple #[Z%, .bool false]) H1) (
 iteB (decide (i ≥ (l.n : Int))) (
 R (.tuple #[Z%, .bool false]) H1) (
 x% i l a ((
 f% x1 x2 x3 x4 x5 x6 x7 x8 x9 x10 x11 H1 (a.add (i.toNat * 11)), (
 CallsH Tryz.prog n_ref18_bar #[.agg #[I%x1, I%x2, I%x3, I%x4, .bool x5, .bool x6, .bool x7, I%x8, I%x9, I%x10, S%x11], I%k] H1 (fun v1 H2 =>
 ∃ x12 x13 : Int, v1 = .agg #[I%x12, I%x13] ∧ (
 iteB (x12 == (0 : Int)) (
 R (.tuple #[Z%, .bool false]) H2) (
 x% i l a1 ((
 f% x14 x15 x16 x17 x18 x19 x20 x21 x22 x23 x24 H2 (a1.add (i.toNat * 11)), (
 CallsH Tryz.prog n_ref18_bar #[.agg #[I%x14, I%x15, I%x16, I%x17, .bool x18, .bool x19, .bool x20, I%x21, I%x22, I%x23, S%x24], I%k] H2 (fun v2 H3 =>
 ∃ x25 x26 : Int, v2 = .agg #[I%x25, I%x26] ∧ (
 iteB (x25 == (1 : Int)) (
 R (.tuple #[Z%, .bool true]) H3) (
 x% i l a2 ((
 f% x27 x28 x29 x30 x31 x32 x33 x34 x35 x36 x37 H3 (a2.add (i.toNat * 11)), (
 CallsH Tryz.prog n_ref18_bar #[.agg #[I%x27, I%x28, I%x29, I%x30, .bool x31, .bool x32, .bool x33, I%x34, I%x35, I%x36, S%x37], I%k] H3 (fun v3 H4 =>
 ∃ x38 x39 : Int, v3 = .agg #[I%x38, I%x39] ∧ (
 iteB (x38 == (4 : Int)) (
 iteB high (
 CallsH Tryz.prog n_ref18_above #[S%l, I%i] H4 (fun v4 H5 =>
 ∃ x40 : Bool, v4 = .bool x40 ∧ (
 iteB x40 (
 R (.tuple #[I%(2 : Int), .bool true]) H5) (
 R (.tuple #[I%(1 : Int), .bool true]) H5)))) (
 R (.tuple #[I%(1 : Int), .bool true]) H4)) (
 R (.tuple #[I%(1 : Int), .bool true]) H4)))))))))))))))))))))))
theorem F_ref18_Class_ok {R : V%} (l : Sl) (high : Bool) (i k : Int) {H : Heap} (h : F_ref18_Class R l high i k H) : CallsH Tryz.prog n_ref18_Class #[S%l, .bool high, I%i, I%k] H R := wpF_ok Tryz.func53 (show wpF Tryz.prog Tryz.f53 [] [] [] [9] _ H R = F_ref18_Class R l high i k H by kernel_rfl) h
def F_ref18_window_k1 (needs : Sl) (I_ : Sl → Int → P%) (M_ : Sl → Int → M%) (sizes : Sl) (k : Int) (H1 : Heap) (x3 : Bool) (H2 : Heap) : Prop :=
 iteB x3 (
 x% k needs a3 ((
 i% x4 H2 ((a3.add (k.toNat * 4)).add 3), (
 h% H3 (H2.push (.cells #[I%x4] t_int (0, 0))) (
 runH Tryz.prog (Builtin.append_ #[t_sl_int, t_sl_int] t_sl_int #[S%sizes, .slice (some &%H2) 1 1]) H3 (fun v H4 =>
 ∃ sizes1 : Sl, v = S%sizes1 ∧ (
 v% k1 (W% (k + (1 : Int))) (
 I_ sizes1 k1 H4 ∧ M_ sizes1 k1 H4 < M_ sizes k H1)))))))) (
 v% k2 (W% (k + (1 : Int))) (
 I_ sizes k2 H2 ∧ M_ sizes k2 H2 < M_ sizes k H1))
def F_ref18_window_k2 (R : V%) (l : Sl) (i classv : Int) (sizes : Sl) (H7 : Heap) : Prop :=
 x% i l a6 ((
 b% x8 H7 ((a6.add (i.toNat * 11)).add 6), (
 CallsH Tryz.prog n_ref18_WindowSize #[S%sizes, I%classv, .bool x8] H7 (fun v2 H8 =>
 ∃ x9 : Int, ∃ x10 : Bool, v2 = .tuple #[I%x9, .bool x10] ∧ (
 R (.tuple #[I%x9, .bool x10]) H8)))))
def F_ref18_window_k3 (R : V%) (l : Sl) (i classv : Int) (sizes : Sl) (port : Bool) (H6 : Heap) : Prop :=
 ∃ J_2 : P%, (
 iteB ((sizes.n : Int) == (0 : Int)) (
 iteB (!port) (
 R (.tuple #[Z%, .bool false]) H6) (
 J_2 H6)) (
 J_2 H6)) ∧ (∀ H7 : Heap, J_2 H7 → F_ref18_window_k2 R l i classv sizes H7)
def F_ref18_window_r4 (R : V%) (l : Sl) (high : Bool) (i classv : Int) (needs : Sl) (I_ : Sl → Int → P%) (M_ : Sl → Int → M%) (sizes : Sl) (k : Int) (H1 : Heap) : Prop :=
 iteB (decide (k < (needs.n : Int))) (
 ∃ J_ : Bool → P%, (
 x% k needs a ((
 i% x H1 ((a.add (k.toNat * 4)).add 2), (
 iteB (x == classv) (
 x% k needs a1 ((
 i% x1 H1 (a1.add (k.toNat * 4)), (
 x% x1 l a2 ((
 i% x2 H1 (a2.add (x1.toNat * 11)), (
 J_ (x2 == i) H1))))))) (
 J_ false H1))))) ∧ (∀ x3 : Bool, ∀ H2 : Heap, J_ x3 H2 → F_ref18_window_k1 needs I_ M_ sizes k H1 x3 H2)) (
 ∃ J_1 : Bool → P%, (
 x% i l a4 ((
 b% x5 H1 ((a4.add (i.toNat * 11)).add 6), (
 iteB x5 (
 iteB (classv != (2 : Int)) (
 J_1 true H1) (
 iteB high (
 x% i l a5 ((
 b% x6 H1 ((a5.add (i.toNat * 11)).add 5), (
 iteB x6 (
 CallsH Tryz.prog n_ref18_above #[S%l, I%i] H1 (fun v1 H5 =>
 ∃ x7 : Bool, v1 = .bool x7 ∧ (
 J_1 x7 H5))) (
 J_1 false H1))))) (
 J_1 false H1))) (
 J_1 false H1))))) ∧ (∀ port : Bool, ∀ H6 : Heap, J_1 port H6 → F_ref18_window_k3 R l i classv sizes port H6))
def F_ref18_window (R : V%) (l : Sl) (high : Bool) (i classv : Int) (needs : Sl) (H : Heap) : Prop :=
 ∃ I_ : Sl → Int → P%, ∃ M_ : Sl → Int → M%, I_ (Sl.mk none 0 0) (0 : Int) H ∧ (∀ sizes : Sl, ∀ k : Int, ∀ H1 : Heap, I_ sizes k H1 → F_ref18_window_r4 R l high i classv needs I_ M_ sizes k H1)
theorem F_ref18_window_ok {R : V%} (l : Sl) (high : Bool) (i classv : Int) (needs : Sl) {H : Heap} (h : F_ref18_window R l high i classv needs H) : CallsH Tryz.prog n_ref18_window #[S%l, .bool high, I%i, I%classv, S%needs] H R := wpF_ok Tryz.func54 (show wpF Tryz.prog Tryz.f54 [(12, N%), (13, I%0), (14, .bool false), (40, .bool false)] [(6, [40], [0, 1, 2, 3, 4, 12, 13]), (8, [14], [0, 2, 3, 12]), (10, [], [0, 2, 3, 12])] [(3, [12, 13], [0, 1, 2, 3, 4])] [9] _ H R = F_ref18_window R l high i classv needs H by kernel_rfl) h
def F_allocate_placeable_r1 (R : V%) (sizes : Sl) (I_ : Int → P%) (M_ : Int → M%) (x1 : Int) (H2 : Heap) : Prop :=
 iteB (decide (x1 < (sizes.n : Int))) (
 x% x1 sizes a ((
 i% size H2 (a.add (x1.toNat * 1)), (
 iteB (decide (size < (0 : Int))) (
 R (.bool false) H2) (
 iteB (decide (size > (44 : Int))) (
 R (.bool false) H2) (
 I_ (W% (x1 + (1 : Int))) H2 ∧ M_ (W% (x1 + (1 : Int))) H2 < M_ x1 H2)))))) (
 R (.bool true) H2)
def F_allocate_placeable (R : V%) (free sizes : Sl) (H : Heap) : Prop :=
 CallsH Tryz.prog n_allocate_validRanges #[S%free] H (fun v H1 =>
 ∃ x : Bool, v = .bool x ∧ (
 iteB (!x) (
 R (.bool false) H1) (
 iteB (decide ((sizes.n : Int) > (1024 : Int))) (
 R (.bool false) H1) (
 ∃ I_ : Int → P%, ∃ M_ : Int → M%, I_ (0 : Int) H1 ∧ (∀ x1 : Int, ∀ H2 : Heap, I_ x1 H2 → F_allocate_placeable_r1 R sizes I_ M_ x1 H2)))))
theorem F_allocate_placeable_ok {R : V%} (free sizes : Sl) {H : Heap} (h : F_allocate_placeable R free sizes H) : CallsH Tryz.prog n_allocate_placeable #[S%free, S%sizes] H R := wpF_ok Tryz.func55 (show wpF Tryz.prog Tryz.f55 [(17, I%0)] [] [(4, [17], [15, 16])] [9] _ H R = F_allocate_placeable R free sizes H by kernel_rfl) h
def F_allocate_demand_r1 (R : V%) (sizes : Sl) (k : Int) (I_ : Int → Int → P%) (M_ : Int → Int → M%) (sum x : Int) (H1 : Heap) : Prop :=
 iteB (decide (x < (sizes.n : Int))) (
 x% x sizes a ((
 i% size H1 (a.add (x.toNat * 1)), (
 iteB (decide (size ≥ k)) (
 0 ≤ size ∧ (
 v% sum1 (w% (sum + (w% ((1 : Int) * 2 ^ (min size.toNat IntKind.u64.bits))))) (
 I_ sum1 (W% (x + (1 : Int))) H1 ∧ M_ sum1 (W% (x + (1 : Int))) H1 < M_ sum x H1))) (
 I_ sum (W% (x + (1 : Int))) H1 ∧ M_ sum (W% (x + (1 : Int))) H1 < M_ sum x H1))))) (
 R (U%sum) H1)
def F_allocate_demand (R : V%) (sizes : Sl) (k : Int) (H : Heap) : Prop :=
 ∃ I_ : Int → Int → P%, ∃ M_ : Int → Int → M%, I_ (0 : Int) (0 : Int) H ∧ (∀ sum x : Int, ∀ H1 : Heap, I_ sum x H1 → F_allocate_demand_r1 R sizes k I_ M_ sum x H1)
theorem F_allocate_demand_ok {R : V%} (sizes : Sl) (k : Int) {H : Heap} (h : F_allocate_demand R sizes k H) : CallsH Tryz.prog n_allocate_demand #[S%sizes, I%k] H R := wpF_ok Tryz.func56 (show wpF Tryz.prog Tryz.f56 [(5, U%0), (10, I%0)] [] [(3, [5, 10], [1, 8, 9])] [9] _ H R = F_allocate_demand R sizes k H by kernel_rfl) h
def F_allocate_Blocks (R : V%) (free : Sl) (k : Int) (H : Heap) : Prop :=
 CallsH Tryz.prog n_allocate_validRanges #[S%free] H (fun v H1 =>
 ∃ x : Bool, v = .bool x ∧ (
 iteB (!x) (
 R (U%(0 : Int)) H1) (
 iteB (decide (k < (0 : Int))) (
 R (U%(0 : Int)) H1) (
 iteB (decide (k > (52 : Int))) (
 R (U%(0 : Int)) H1) (
 CallsH Tryz.prog n_allocate_merged #[S%free] H1 (fun v1 H2 =>
 ∃ x1 : Sl, v1 = S%x1 ∧ (
 CallsH Tryz.prog n_allocate_countBlocks #[S%x1, I%k] H2 (fun v2 H3 =>
 ∃ x2 : Int, v2 = U%x2 ∧ (
 R (U%x2) H3)))))))))
theorem F_allocate_Blocks_ok {R : V%} (free : Sl) (k : Int) {H : Heap} (h : F_allocate_Blocks R free k H) : CallsH Tryz.prog n_allocate_Blocks #[S%free, I%k] H R := wpF_ok Tryz.func57 (show wpF Tryz.prog Tryz.f57 [] [] [] [9] _ H R = F_allocate_Blocks R free k H by kernel_rfl) h
def F_ref21_Free_r1 (R : V%) (fixed : Sl) (I_ : Sl → Int → P%) (M_ : Sl → Int → M%) (free1 : Sl) (i : Int) (H4 : Heap) : Prop :=
 iteB (decide (i < (fixed.n : Int))) (
 x% i fixed a ((
 u% x2 H4 (a.add (i.toNat * 2)), u% x3 H4 ((a.add (i.toNat * 2)).add 1), (
 CallsH Tryz.prog n_ref21_remove #[S%free1, .agg #[U%x2, U%x3]] H4 (fun v3 H5 =>
 ∃ free2 : Sl, v3 = S%free2 ∧ (
 v% i1 (W% (i + (1 : Int))) (
 I_ free2 i1 H5 ∧ M_ free2 i1 H5 < M_ free1 i H4))))))) (
 R (S%free1) H4)
def F_ref21_Free (R : V%) (l fixed : Sl) (H : Heap) : Prop :=
 CallsH Tryz.prog n_ref21_ValidRanges #[S%l] H (fun v H1 =>
 ∃ x : Bool, v = .bool x ∧ (
 iteB (!x) (
 R (N%) H1) (
 CallsH Tryz.prog n_ref21_ValidRanges #[S%fixed] H1 (fun v1 H2 =>
 ∃ x1 : Bool, v1 = .bool x1 ∧ (
 iteB (!x1) (
 R (N%) H2) (
 CallsH Tryz.prog n_ref21_merge #[S%l] H2 (fun v2 H3 =>
 ∃ free : Sl, v2 = S%free ∧ (
 ∃ I_ : Sl → Int → P%, ∃ M_ : Sl → Int → M%, I_ free (0 : Int) H3 ∧ (∀ free1 : Sl, ∀ i : Int, ∀ H4 : Heap, I_ free1 i H4 → F_ref21_Free_r1 R fixed I_ M_ free1 i H4)))))))))
theorem F_ref21_Free_ok {R : V%} (l fixed : Sl) {H : Heap} (h : F_ref21_Free R l fixed H) : CallsH Tryz.prog n_ref21_Free #[S%l, S%fixed] H R := wpF_ok Tryz.func58 (show wpF Tryz.prog Tryz.f58 [(5, N%), (6, I%0)] [] [(5, [5, 6], [1])] [9] _ H R = F_ref21_Free R l fixed H by kernel_rfl) h
def F_gen_bars_k1 (n : Int) (J_ : Int → P%) (x2 : Bool) (H2 : Heap) : Prop :=
 iteB x2 (
 v% n2 (W% ((8 : Int) + (n.tmod (16 : Int)))) (
 J_ n2 H2)) (
 v% n3 (W% ((30 : Int) + (n.tmod (4 : Int)))) (
 J_ n3 H2))
def F_gen_bars_k2 (most : Int) (I_ : Sl → Int → P%) (M_ : Sl → Int → M%) (out : Sl) (i : Int) (H1 : Heap) (k n4 : Int) (H3 : Heap) : Prop :=
 iteB (decide (k < (3 : Int))) (
 h% H4 (H3.push (.cells #[I%k, I%n4] t_api_Bar (0, 0))) (
 runH Tryz.prog (Builtin.append_ #[t_sl_api_Bar, t_sl_api_Bar] t_sl_api_Bar #[S%out, .slice (some &%H3) 1 1]) H4 (fun v2 H5 =>
 ∃ out1 : Sl, v2 = S%out1 ∧ (
 v% i1 (W% (i + (1 : Int))) (
 I_ out1 i1 H5 ∧ M_ out1 i1 H5 < M_ out i H1))))) (
 iteB (decide ((W% ((out.n : Int) + (2 : Int))) ≤ most)) (
 h% H6 (H3.push (.cells #[I%k, I%n4, Z%, Z%] t_api_Bar (0, 0))) (
 runH Tryz.prog (Builtin.append_ #[t_sl_api_Bar, t_sl_api_Bar] t_sl_api_Bar #[S%out, .slice (some &%H3) 2 2]) H6 (fun v3 H7 =>
 ∃ out2 : Sl, v3 = S%out2 ∧ (
 v% i2 (W% (i + (1 : Int))) (
 I_ out2 i2 H7 ∧ M_ out2 i2 H7 < M_ out i H1))))) (
 v% i3 (W% (i + (1 : Int))) (
 I_ out i3 H3 ∧ M_ out i3 H3 < M_ out i H1)))
def F_gen_bars_r3 (R : V%) (l : Sl) (most : Int) (I_ : Sl → Int → P%) (M_ : Sl → Int → M%) (out : Sl) (i : Int) (H1 : Heap) : Prop :=
 iteB (decide (i < (l.n : Int))) (
 iteB (decide ((out.n : Int) < most)) (
 x% i l a ((
 i% x H1 (a.add (i.toNat * 2)), (
 CallsP Tryz.prog n_help_Mod #[I%x, I%(5 : Int)] (fun v =>
 ∃ k : Int, v = I%k ∧ (
 x% i l a1 ((
 i% x1 H1 ((a1.add (i.toNat * 2)).add 1), (
 CallsP Tryz.prog n_help_Mod #[I%x1, I%(30 : Int)] (fun v1 =>
 ∃ n : Int, v1 = I%n ∧ (
 ∃ J_ : Int → P%, (
 iteB (k == (0 : Int)) (
 J_ (0 : Int) H1) (
 iteB (k == (1 : Int)) (
 v% n1 (W% ((2 : Int) + (n.tmod (7 : Int)))) (
 J_ n1 H1)) (
 ∃ J_1 : Bool → P%, (
 iteB (k == (2 : Int)) (
 J_1 true H1) (
 J_1 ((n.tmod (8 : Int)) != (7 : Int)) H1)) ∧ (∀ x2 : Bool, ∀ H2 : Heap, J_1 x2 H2 → F_gen_bars_k1 n J_ x2 H2)))) ∧ (∀ n4 : Int, ∀ H3 : Heap, J_ n4 H3 → F_gen_bars_k2 most I_ M_ out i H1 k n4 H3)))))))))))) (
 R (S%out) H1)) (
 R (S%out) H1)
def F_gen_bars (R : V%) (l : Sl) (most : Int) (H : Heap) : Prop :=
 ∃ I_ : Sl → Int → P%, ∃ M_ : Sl → Int → M%, I_ (Sl.mk none 0 0) (0 : Int) H ∧ (∀ out : Sl, ∀ i : Int, ∀ H1 : Heap, I_ out i H1 → F_gen_bars_r3 R l most I_ M_ out i H1)
theorem F_gen_bars_ok {R : V%} (l : Sl) (most : Int) {H : Heap} (h : F_gen_bars R l most H) : CallsH Tryz.prog n_gen_bars #[S%l, I%most] H R := wpF_ok Tryz.func59 (show wpF Tryz.prog Tryz.f59 [(5, N%), (6, I%0), (8, I%0), (45, .bool false)] [(13, [8], [0, 1, 5, 6, 7]), (12, [45], [0, 1, 5, 6, 7, 8])] [(3, [5, 6], [0, 1])] [9] _ H R = F_gen_bars R l most H by kernel_rfl) h
def F_gen_ranges_r1 (R : V%) (l : Sl) (fromv unit most n : Int) (I_ : Sl → Int → P%) (M_ : Sl → Int → M%) (out : Sl) (i : Int) (H1 : Heap) : Prop :=
 iteB (decide (i < (l.n : Int))) (
 iteB (decide (i < most)) (
 x% i l a ((
 u% x H1 (a.add (i.toNat * 2)), (
 n ≠ 0 ∧ (
 x% i l a1 ((
 u% x1 H1 ((a1.add (i.toNat * 2)).add 1), (
 (w% (n - (x.tmod n))) ≠ 0 ∧ (
 h% H2 (H1.push (.cells #[U%(w% (fromv + (w% ((x.tmod n) * unit)))), U%(w% ((w% ((1 : Int) + (x1.tmod (w% (n - (x.tmod n)))))) * unit))] t_api_Range (0, 0))) (
 runH Tryz.prog (Builtin.append_ #[t_sl_api_Range, t_sl_api_Range] t_sl_api_Range #[S%out, .slice (some &%H1) 1 1]) H2 (fun v H3 =>
 ∃ out1 : Sl, v = S%out1 ∧ (
 v% i1 (W% (i + (1 : Int))) (
 I_ out1 i1 H3 ∧ M_ out1 i1 H3 < M_ out i H1))))))))))))) (
 R (S%out) H1)) (
 R (S%out) H1)
def F_gen_ranges (R : V%) (l : Sl) (fromv to unit most : Int) (H : Heap) : Prop :=
 unit ≠ 0 ∧ (
 v% n (w% ((w% (to - fromv)).tdiv unit)) (
 ∃ I_ : Sl → Int → P%, ∃ M_ : Sl → Int → M%, I_ (Sl.mk none 0 0) (0 : Int) H ∧ (∀ out : Sl, ∀ i : Int, ∀ H1 : Heap, I_ out i H1 → F_gen_ranges_r1 R l fromv unit most n I_ M_ out i H1)))
theorem F_gen_ranges_ok {R : V%} (l : Sl) (fromv to unit most : Int) {H : Heap} (h : F_gen_ranges R l fromv to unit most H) : CallsH Tryz.prog n_gen_ranges #[S%l, U%fromv, U%to, U%unit, I%most] H R := wpF_ok Tryz.func60 (show wpF Tryz.prog Tryz.f60 [(11, N%), (13, I%0)] [] [(4, [11, 13], [0, 1, 3, 4, 12])] [9] _ H R = F_gen_ranges R l fromv to unit most H by kernel_rfl) h
def F_ref21_ValidHost_r1 (R : V%) (H : Heap) (I_ : Int → P%) (M_ : Int → M%) (i : Int) (H7 : Heap) : Prop :=
 s% x14 H7 (+%H 7), (
 iteB (decide (i < (x14.n : Int))) (
 s% x15 H7 (+%H 7), (
 x% i x15 a ((
 i% x16 H7 (a.add (i.toNat * 3)), i% x17 H7 ((a.add (i.toNat * 3)).add 1), i% x18 H7 ((a.add (i.toNat * 3)).add 2), (
 h% H8 (H7.push (.cells #[Z%, Z%, Z%] t_api_Route (0, 0))) (
 okRow H8 &%H7 3 ∧ (
 h% H9 (wrs H8 &%H7 [I%x16, I%x17, I%x18]) (
 i% x19 H9 &%H7, (
 iteB (decide (x19 < (0 : Int))) (
 R (.bool false) H9) (
 i% x20 H9 &%H7, (
 iteB (decide (x20 > (31 : Int))) (
 R (.bool false) H9) (
 i% x21 H9 (+%H7 1), (
 iteB (decide (x21 < (1 : Int))) (
 R (.bool false) H9) (
 i% x22 H9 (+%H7 1), (
 iteB (decide (x22 > (4 : Int))) (
 R (.bool false) H9) (
 i% x23 H9 (+%H7 2), (
 iteB (decide (x23 < (0 : Int))) (
 R (.bool false) H9) (
 i% x24 H9 (+%H7 2), (
 s% x25 H9 (+%H 6), (
 iteB (decide (x24 ≥ (x25.n : Int))) (
 R (.bool false) H9) (
 v% i1 (W% (i + (1 : Int))) (
 I_ i1 H9 ∧ M_ i1 H9 < M_ i H7)))))))))))))))))))))) (
 R (.bool true) H7))
def F_ref21_ValidHost (R : V%) (h_0 : Int) (h_1 h_2 h_3 h_4 h_5 h_6 h_7 : Sl) (H : Heap) : Prop :=
 h% H1 (H.push (.cells #[I%h_0, S%h_1, S%h_2, S%h_3, S%h_4, S%h_5, S%h_6, S%h_7] t_api_Host (0, 0))) (
 i% x H1 &%H, (
 iteB (decide (x < (1 : Int))) (
 R (.bool false) H1) (
 i% x1 H1 &%H, (
 iteB (decide (x1 > (256 : Int))) (
 R (.bool false) H1) (
 s% x2 H1 (+%H 6), (
 iteB (decide ((x2.n : Int) > (16 : Int))) (
 R (.bool false) H1) (
 s% x3 H1 (+%H 7), (
 iteB (decide ((x3.n : Int) > (128 : Int))) (
 R (.bool false) H1) (
 s% x4 H1 (+%H 1), (
 CallsH Tryz.prog n_ref21_within #[S%x4, U%(0 : Int), U%(65536 : Int)] H1 (fun v H2 =>
 ∃ x5 : Bool, v = .bool x5 ∧ (
 iteB (!x5) (
 R (.bool false) H2) (
 s% x6 H2 (+%H 4), (
 CallsH Tryz.prog n_ref21_within #[S%x6, U%(0 : Int), U%(65536 : Int)] H2 (fun v1 H3 =>
 ∃ x7 : Bool, v1 = .bool x7 ∧ (
 iteB (!x7) (
 R (.bool false) H3) (
 s% x8 H3 (+%H 2), (
 CallsH Tryz.prog n_ref21_within #[S%x8, U%(0 : Int), U%(4294967296 : Int)] H3 (fun v2 H4 =>
 ∃ x9 : Bool, v2 = .bool x9 ∧ (
 iteB (!x9) (
 R (.bool false) H4) (
 s% x10 H4 (+%H 5), (
 CallsH Tryz.prog n_ref21_within #[S%x10, U%(0 : Int), U%(4503599627370496 : Int)] H4 (fun v3 H5 =>
 ∃ x11 : Bool, v3 = .bool x11 ∧ (
 iteB (!x11) (
 R (.bool false) H5) (
 s% x12 H5 (+%H 3), (
 CallsH Tryz.prog n_ref21_within #[S%x12, U%(4294967296 : Int), U%(4503599627370496 : Int)] H5 (fun v4 H6 =>
 ∃ x13 : Bool, v4 = .bool x13 ∧ (
 iteB (!x13) (
 R (.bool false) H6) (
 ∃ I_ : Int → P%, ∃ M_ : Int → M%, I_ (0 : Int) H6 ∧ (∀ i : Int, ∀ H7 : Heap, I_ i H7 → F_ref21_ValidHost_r1 R H I_ M_ i H7))))))))))))))))))))))))))))))
theorem F_ref21_ValidHost_ok {R : V%} (h_0 : Int) (h_1 h_2 h_3 h_4 h_5 h_6 h_7 : Sl) {H : Heap} (h : F_ref21_ValidHost R h_0 h_1 h_2 h_3 h_4 h_5 h_6 h_7 H) : CallsH Tryz.prog n_ref21_ValidHost #[(g% h_0 h_1 h_2 h_3 h_4 h_5 h_6 h_7)] H R := wpF_ok Tryz.func61 (show wpF Tryz.prog Tryz.f61 [(3, I%0)] [] [(6, [3], [1])] [9] _ H R = F_ref21_ValidHost R h_0 h_1 h_2 h_3 h_4 h_5 h_6 h_7 H by kernel_rfl) h
def F_ref21_place_r1 (R : V%) (H : Heap) (a below : Sl) (H6 : Heap) (x1 : Sl) (x6 : Int) (I_1 : Int → P%) (M_1 : Int → M%) (i2 : Int) (H10 : Heap) : Prop :=
 iteB (decide (i2 < (x1.n : Int))) (
 x% i2 below a2 ((
 i% x7 H10 (a2.add (i2.toNat * 4)), (
 x% i2 below a3 ((
 i% x8 H10 ((a3.add (i2.toNat * 4)).add 1), (
 x% i2 x1 a4 ((
 u% x9 H10 (a4.add (i2.toNat * 1)), (
 CallsH Tryz.prog n_ref21_at #[S%a, I%x7, I%x8] H10 (fun v3 H11 =>
 ∃ x10 : Int, v3 = I%x10 ∧ (
 Keeps H10 H11 [((a4.add (i2.toNat * 1)), 1)] ∧ (
 x% x10 a a5 ((
 okRow H11 ((a5.add (x10.toNat * 5)).add 4) 1 ∧ (
 h% H12 (wrs H11 ((a5.add (x10.toNat * 5)).add 4) [U%x9]) (
 v% i3 (W% (i2 + (1 : Int))) (
 I_1 i3 H12 ∧ M_1 i3 H12 < M_1 i2 H10)))))))))))))))))) (
 iteB (x6 == (0 : Int)) (
 okRow H10 &%H6 4 ∧ (
 h% H13 (wrs H10 &%H6 [Z%, Z%, U%(0 : Int), U%(0 : Int)]) (
 i% x11 H13 &%H6, i% x12 H13 (+%H6 1), u% x13 H13 (+%H6 2), u% x14 H13 (+%H6 3), (
 okRow H13 &%H 4 ∧ (
 h% H14 (wrs H13 &%H [I%x11, I%x12, U%x13, U%x14]) (
 i% r H14 &%H, i% r1 H14 (+%H 1), u% r2 H14 (+%H 2), u% r3 H14 (+%H 3), (
 R (.tuple #[.agg #[I%r, I%r1, U%r2, U%r3], I%x6]) H14))))))) (
 i% x15 H10 &%H6, i% x16 H10 (+%H6 1), u% x17 H10 (+%H6 2), u% x18 H10 (+%H6 3), (
 okRow H10 &%H 4 ∧ (
 h% H15 (wrs H10 &%H [I%x15, I%x16, U%x17, U%x18]) (
 i% r4 H15 &%H, i% r5 H15 (+%H 1), u% r6 H15 (+%H 2), u% r7 H15 (+%H 3), (
 R (.tuple #[.agg #[I%r4, I%r5, U%r6, U%r7], I%x6]) H15))))))
def F_ref21_place_r2 (R : V%) (H : Heap) (a : Sl) (classv : Int) (free below : Sl) (I_ : Sl → Int → P%) (M_ : Sl → Int → M%) (sizes : Sl) (i : Int) (H3 : Heap) : Prop :=
 iteB (decide (i < (below.n : Int))) (
 x% i below a1 ((
 i% x H3 ((a1.add (i.toNat * 4)).add 3), (
 h% H4 (H3.push (.cells #[I%x] t_int (0, 0))) (
 runH Tryz.prog (Builtin.append_ #[t_sl_int, t_sl_int] t_sl_int #[S%sizes, .slice (some &%H3) 1 1]) H4 (fun v1 H5 =>
 ∃ sizes1 : Sl, v1 = S%sizes1 ∧ (
 v% i1 (W% (i + (1 : Int))) (
 I_ sizes1 i1 H5 ∧ M_ sizes1 i1 H5 < M_ sizes i H3)))))))) (
 CallsH Tryz.prog n_ref21_Place #[S%free, S%sizes] H3 (fun v2 H6 =>
 ∃ x1 : Sl, ∃ x2 x3 : Int, ∃ x4 x5 x6 : Int, v2 = .tuple #[S%x1, .agg #[I%x2, I%x3, U%x4, U%x5], I%x6] ∧ (
 h% H7 (H6.push (.cells #[Z%, Z%, U%(0 : Int), U%(0 : Int)] t_api_Certificate (0, 0))) (
 okRow H7 &%H6 4 ∧ (
 h% H8 (wrs H7 &%H6 [I%x2, I%x3, U%x4, U%x5]) (
 okRow H8 &%H6 1 ∧ (
 h% H9 (wrs H8 &%H6 [I%classv]) (
 ∃ I_1 : Int → P%, ∃ M_1 : Int → M%, I_1 (0 : Int) H9 ∧ (∀ i2 : Int, ∀ H10 : Heap, I_1 i2 H10 → F_ref21_place_r1 R H a below H6 x1 x6 I_1 M_1 i2 H10)))))))))
def F_ref21_place (R : V%) (l a needs : Sl) (parent classv : Int) (free : Sl) (H : Heap) : Prop :=
 h% H1 (H.push (.cells #[Z%, Z%, U%(0 : Int), U%(0 : Int)] t_api_Certificate (0, 0))) (
 CallsH Tryz.prog n_ref18_NeedsBelow #[S%l, S%needs, I%parent, I%classv] H1 (fun v H2 =>
 ∃ below : Sl, v = S%below ∧ (
 ∃ I_ : Sl → Int → P%, ∃ M_ : Sl → Int → M%, I_ (Sl.mk none 0 0) (0 : Int) H2 ∧ (∀ sizes : Sl, ∀ i : Int, ∀ H3 : Heap, I_ sizes i H3 → F_ref21_place_r2 R H a classv free below I_ M_ sizes i H3))))
theorem F_ref21_place_ok {R : V%} (l a needs : Sl) (parent classv : Int) (free : Sl) {H : Heap} (h : F_ref21_place R l a needs parent classv free H) : CallsH Tryz.prog n_ref21_place #[S%l, S%a, S%needs, I%parent, I%classv, S%free] H R := wpF_ok Tryz.func62 (show wpF Tryz.prog Tryz.f62 [(15, N%), (16, I%0), (20, I%0)] [] [(4, [15, 16], [1, 4, 5, 12, 14]), (10, [20], [1, 12, 14, 17, 18, 19])] [9] _ H R = F_ref21_place R l a needs parent classv free H by kernel_rfl) h
def F_ref21_at_r1 (R : V%) (a : Sl) (f index : Int) (I_ : Int → P%) (M_ : Int → M%) (i : Int) (H1 : Heap) : Prop :=
 iteB (decide (i < (a.n : Int))) (
 x% i a a1 ((
 i% x H1 (a1.add (i.toNat * 5)), (
 iteB (x == f) (
 x% i a a2 ((
 i% x1 H1 ((a2.add (i.toNat * 5)).add 1), (
 iteB (x1 == index) (
 R (I%i) H1) (
 v% i1 (W% (i + (1 : Int))) (
 I_ i1 H1 ∧ M_ i1 H1 < M_ i H1)))))) (
 v% i2 (W% (i + (1 : Int))) (
 I_ i2 H1 ∧ M_ i2 H1 < M_ i H1)))))) (
 R (I%(-1 : Int)) H1)
def F_ref21_at (R : V%) (a : Sl) (f index : Int) (H : Heap) : Prop :=
 ∃ I_ : Int → P%, ∃ M_ : Int → M%, I_ (0 : Int) H ∧ (∀ i : Int, ∀ H1 : Heap, I_ i H1 → F_ref21_at_r1 R a f index I_ M_ i H1)
theorem F_ref21_at_ok {R : V%} (a : Sl) (f index : Int) {H : Heap} (h : F_ref21_at R a f index H) : CallsH Tryz.prog n_ref21_at #[S%a, I%f, I%index] H R := wpF_ok Tryz.func63 (show wpF Tryz.prog Tryz.f63 [(7, I%0)] [] [(2, [7], [0, 1, 2])] [9] _ H R = F_ref21_at R a f index H by kernel_rfl) h
def F_ref21_port (R : V%) (l : Sl) (i : Int) (H : Heap) : Prop :=
 iteB (decide (i ≥ (0 : Int))) (
 iteB (decide (i < (l.n : Int))) (
 x% i l a ((
 b% x H ((a.add (i.toNat * 11)).add 6), (
 R (.bool x) H)))) (
 R (.bool false) H)) (
 R (.bool false) H)
theorem F_ref21_port_ok {R : V%} (l : Sl) (i : Int) {H : Heap} (h : F_ref21_port R l i H) : CallsH Tryz.prog n_ref21_port #[S%l, I%i] H R := wpF_ok Tryz.func64 (show wpF Tryz.prog Tryz.f64 [] [] [] [9] _ H R = F_ref21_port R l i H by kernel_rfl) h
def F_ref18_Below_k1 (I_1 : Sl → Int → P%) (M_1 : Sl → Int → M%) (out1 : Sl) (i : Int) (H2 : Heap) (x2 : Bool) (H3 : Heap) : Prop :=
 iteB x2 (
 h% H4 (H3.push (.cells #[I%i] t_int (0, 0))) (
 runH Tryz.prog (Builtin.append_ #[t_sl_int, t_sl_int] t_sl_int #[S%out1, .slice (some &%H3) 1 1]) H4 (fun v H5 =>
 ∃ out2 : Sl, v = S%out2 ∧ (
 v% i1 (W% (i + (1 : Int))) (
 I_1 out2 i1 H5 ∧ M_1 out2 i1 H5 < M_1 out1 i H2))))) (
 v% i2 (W% (i + (1 : Int))) (
 I_1 out1 i2 H3 ∧ M_1 out1 i2 H3 < M_1 out1 i H2))
def F_ref18_Below_r2 (l : Sl) (parent : Int) (I_ : Sl → Int → P%) (M_ : Sl → Int → M%) (out : Sl) (slot : Int) (H1 : Heap) (I_1 : Sl → Int → P%) (M_1 : Sl → Int → M%) (out1 : Sl) (i : Int) (H2 : Heap) : Prop :=
 iteB (decide (i < (l.n : Int))) (
 ∃ J_ : Bool → P%, (
 x% i l a ((
 i% x H2 (a.add (i.toNat * 11)), (
 iteB (x == parent) (
 x% i l a1 ((
 i% x1 H2 ((a1.add (i.toNat * 11)).add 1), (
 J_ (x1 == slot) H2)))) (
 J_ false H2))))) ∧ (∀ x2 : Bool, ∀ H3 : Heap, J_ x2 H3 → F_ref18_Below_k1 I_1 M_1 out1 i H2 x2 H3)) (
 v% slot1 (W% (slot + (1 : Int))) (
 I_ out1 slot1 H2 ∧ M_ out1 slot1 H2 < M_ out slot H1))
def F_ref18_Below_r3 (R : V%) (l : Sl) (parent : Int) (I_ : Sl → Int → P%) (M_ : Sl → Int → M%) (out : Sl) (slot : Int) (H1 : Heap) : Prop :=
 iteB (decide (slot < (32 : Int))) (
 ∃ I_1 : Sl → Int → P%, ∃ M_1 : Sl → Int → M%, I_1 out (0 : Int) H1 ∧ (∀ out1 : Sl, ∀ i : Int, ∀ H2 : Heap, I_1 out1 i H2 → F_ref18_Below_r2 l parent I_ M_ out slot H1 I_1 M_1 out1 i H2)) (
 R (S%out) H1)
def F_ref18_Below (R : V%) (l : Sl) (parent : Int) (H : Heap) : Prop :=
 ∃ I_ : Sl → Int → P%, ∃ M_ : Sl → Int → M%, I_ (Sl.mk none 0 0) (0 : Int) H ∧ (∀ out : Sl, ∀ slot : Int, ∀ H1 : Heap, I_ out slot H1 → F_ref18_Below_r3 R l parent I_ M_ out slot H1)
theorem F_ref18_Below_ok {R : V%} (l : Sl) (parent : Int) {H : Heap} (h : F_ref18_Below R l parent H) : CallsH Tryz.prog n_ref18_Below #[S%l, I%parent] H R := wpF_ok Tryz.func65 (show wpF Tryz.prog Tryz.f65 [(5, N%), (6, I%0), (7, I%0), (33, .bool false)] [(9, [33], [0, 1, 5, 6, 7])] [(3, [5, 6], [0, 1]), (6, [5, 7], [0, 1, 6])] [9] _ H R = F_ref18_Below R l parent H by kernel_rfl) h
def F_hotplug_isPort (R : V%) (l : Sl) (port : Int) (H : Heap) : Prop :=
 iteB (decide (port ≥ (0 : Int))) (
 iteB (decide (port < (l.n : Int))) (
 x% port l a ((
 b% x H ((a.add (port.toNat * 11)).add 4), (
 iteB x (
 x% port l a1 ((
 b% x1 H ((a1.add (port.toNat * 11)).add 6), (
 R (.bool x1) H)))) (
 R (.bool false) H))))) (
 R (.bool false) H)) (
 R (.bool false) H)
theorem F_hotplug_isPort_ok {R : V%} (l : Sl) (port : Int) {H : Heap} (h : F_hotplug_isPort R l port H) : CallsH Tryz.prog n_hotplug_isPort #[S%l, I%port] H R := wpF_ok Tryz.func66 (show wpF Tryz.prog Tryz.f66 [] [] [] [9] _ H R = F_hotplug_isPort R l port H by kernel_rfl) h
def F_resources_registers_r1 (R : V%) (l : Sl) (high : Bool) (function : Int) (x : Sl) (I_ : Sl → Int → P%) (M_ : Sl → Int → M%) (needs : Sl) (x1 : Int) (H1 : Heap) : Prop :=
 iteB (decide (x1 < (x.n : Int))) (
 x% x1 x a1 ((
 i% x2 H1 (a1.add (x1.toNat * 2)), i% x3 H1 ((a1.add (x1.toNat * 2)).add 1), (
 h% H2 (H1.push (.cells #[Z%, Z%] t_api_Bar (0, 0))) (
 okRow H2 &%H1 2 ∧ (
 h% H3 (wrs H2 &%H1 [I%x2, I%x3]) (
 i% x4 H3 &%H1, (
 iteB (x4 == (0 : Int)) (
 I_ needs (W% (x1 + (1 : Int))) H3 ∧ M_ needs (W% (x1 + (1 : Int))) H3 < M_ needs x1 H1) (
 i% x5 H3 &%H1, (
 CallsH Tryz.prog n_resources_classOf #[S%l, .bool high, I%function, I%x5] H3 (fun v H4 =>
 ∃ classv : Int, v = I%classv ∧ (
 i% x6 H4 (+%H1 1), (
 h% H5 (H4.push (.cells #[I%function, I%x1, I%classv, I%x6] t_api_Need (0, 0))) (
 runH Tryz.prog (Builtin.append_ #[t_sl_api_Need, t_sl_api_Need] t_sl_api_Need #[S%needs, .slice (some &%H4) 1 1]) H5 (fun v1 H6 =>
 ∃ needs1 : Sl, v1 = S%needs1 ∧ (
 I_ needs1 (W% (x1 + (1 : Int))) H6 ∧ M_ needs1 (W% (x1 + (1 : Int))) H6 < M_ needs x1 H1)))))))))))))))) (
 R (S%needs) H1)
def F_resources_registers (R : V%) (l : Sl) (high : Bool) (function : Int) (H : Heap) : Prop :=
 x% function l a ((
 s% x H ((a.add (function.toNat * 11)).add 10), (
 ∃ I_ : Sl → Int → P%, ∃ M_ : Sl → Int → M%, I_ (Sl.mk none 0 0) (0 : Int) H ∧ (∀ needs : Sl, ∀ x1 : Int, ∀ H1 : Heap, I_ needs x1 H1 → F_resources_registers_r1 R l high function x I_ M_ needs x1 H1))))
theorem F_resources_registers_ok {R : V%} (l : Sl) (high : Bool) (function : Int) {H : Heap} (h : F_resources_registers R l high function H) : CallsH Tryz.prog n_resources_registers #[S%l, .bool high, I%function] H R := wpF_ok Tryz.func67 (show wpF Tryz.prog Tryz.f67 [(7, N%), (17, I%0)] [] [(3, [7, 17], [0, 1, 2, 15, 16])] [9] _ H R = F_resources_registers R l high function H by kernel_rfl) h
def F_resources_windows_k1 (function : Int) (H1 : Heap) (x12 : Sl) (I_ : Sl → Int → P%) (M_ : Sl → Int → M%) (needs : Sl) (x15 : Int) (H4 H6 : Heap) : Prop :=
 b% x18 H6 (+%H1 6), (
 CallsH Tryz.prog n_resources_WindowSize #[S%x12, I%x15, .bool x18] H6 (fun v1 H7 =>
 ∃ x19 : Int, ∃ x20 : Bool, v1 = .tuple #[I%x19, .bool x20] ∧ (
 iteB x20 (
 h% H8 (H7.push (.cells #[I%function, I%(W% ((-1 : Int) - x15)), I%x15, I%x19] t_api_Need (0, 0))) (
 runH Tryz.prog (Builtin.append_ #[t_sl_api_Need, t_sl_api_Need] t_sl_api_Need #[S%needs, .slice (some &%H7) 1 1]) H8 (fun v2 H9 =>
 ∃ needs1 : Sl, v2 = S%needs1 ∧ (
 I_ needs1 (W% (x15 + (1 : Int))) H9 ∧ M_ needs1 (W% (x15 + (1 : Int))) H9 < M_ needs x15 H4)))) (
 I_ needs (W% (x15 + (1 : Int))) H7 ∧ M_ needs (W% (x15 + (1 : Int))) H7 < M_ needs x15 H4))))
def F_resources_windows_k2 (function : Int) (H1 : Heap) (x13 : Sl) (I_ : Sl → Int → P%) (M_ : Sl → Int → M%) (needs : Sl) (x15 : Int) (H4 H11 : Heap) : Prop :=
 b% x23 H11 (+%H1 6), (
 CallsH Tryz.prog n_resources_WindowSize #[S%x13, I%x15, .bool x23] H11 (fun v4 H12 =>
 ∃ x24 : Int, ∃ x25 : Bool, v4 = .tuple #[I%x24, .bool x25] ∧ (
 iteB x25 (
 h% H13 (H12.push (.cells #[I%function, I%(W% ((-1 : Int) - x15)), I%x15, I%x24] t_api_Need (0, 0))) (
 runH Tryz.prog (Builtin.append_ #[t_sl_api_Need, t_sl_api_Need] t_sl_api_Need #[S%needs, .slice (some &%H12) 1 1]) H13 (fun v5 H14 =>
 ∃ needs2 : Sl, v5 = S%needs2 ∧ (
 I_ needs2 (W% (x15 + (1 : Int))) H14 ∧ M_ needs2 (W% (x15 + (1 : Int))) H14 < M_ needs x15 H4)))) (
 I_ needs (W% (x15 + (1 : Int))) H12 ∧ M_ needs (W% (x15 + (1 : Int))) H12 < M_ needs x15 H4))))
def F_resources_windows_k3 (function : Int) (H1 : Heap) (x14 : Sl) (I_ : Sl → Int → P%) (M_ : Sl → Int → M%) (needs : Sl) (x15 : Int) (H4 H16 : Heap) : Prop :=
 b% x28 H16 (+%H1 6), (
 CallsH Tryz.prog n_resources_WindowSize #[S%x14, I%x15, .bool x28] H16 (fun v7 H17 =>
 ∃ x29 : Int, ∃ x30 : Bool, v7 = .tuple #[I%x29, .bool x30] ∧ (
 iteB x30 (
 h% H18 (H17.push (.cells #[I%function, I%(W% ((-1 : Int) - x15)), I%x15, I%x29] t_api_Need (0, 0))) (
 runH Tryz.prog (Builtin.append_ #[t_sl_api_Need, t_sl_api_Need] t_sl_api_Need #[S%needs, .slice (some &%H17) 1 1]) H18 (fun v8 H19 =>
 ∃ needs3 : Sl, v8 = S%needs3 ∧ (
 I_ needs3 (W% (x15 + (1 : Int))) H19 ∧ M_ needs3 (W% (x15 + (1 : Int))) H19 < M_ needs x15 H4)))) (
 I_ needs (W% (x15 + (1 : Int))) H17 ∧ M_ needs (W% (x15 + (1 : Int))) H17 < M_ needs x15 H4))))
def F_resources_windows_r4 (R : V%) (l : Sl) (high : Bool) (function : Int) (H1 : Heap) (x12 x13 x14 : Sl) (I_ : Sl → Int → P%) (M_ : Sl → Int → M%) (needs : Sl) (x15 : Int) (H4 : Heap) : Prop :=
 iteB (decide (x15 < (3 : Int))) (
 0 ≤ x15 ∧ x15 < ((3 : Nat) : Int) ∧ (iteB (x15 == (0 : Int)) (
 ∃ J_ : P%, (
 iteB (x15 == (2 : Int)) (
 iteB high (
 b% x16 H4 (+%H1 5), (
 iteB x16 (
 CallsH Tryz.prog n_resources_prefAbove #[S%l, I%function] H4 (fun v H5 =>
 ∃ x17 : Bool, v = .bool x17 ∧ (
 iteB (!x17) (
 I_ needs (W% (x15 + (1 : Int))) H5 ∧ M_ needs (W% (x15 + (1 : Int))) H5 < M_ needs x15 H4) (
 J_ H5)))) (
 I_ needs (W% (x15 + (1 : Int))) H4 ∧ M_ needs (W% (x15 + (1 : Int))) H4 < M_ needs x15 H4))) (
 I_ needs (W% (x15 + (1 : Int))) H4 ∧ M_ needs (W% (x15 + (1 : Int))) H4 < M_ needs x15 H4)) (
 J_ H4)) ∧ (∀ H6 : Heap, J_ H6 → F_resources_windows_k1 function H1 x12 I_ M_ needs x15 H4 H6)) (
 iteB (x15 == (1 : Int)) (
 ∃ J_1 : P%, (
 iteB (x15 == (2 : Int)) (
 iteB high (
 b% x21 H4 (+%H1 5), (
 iteB x21 (
 CallsH Tryz.prog n_resources_prefAbove #[S%l, I%function] H4 (fun v3 H10 =>
 ∃ x22 : Bool, v3 = .bool x22 ∧ (
 iteB (!x22) (
 I_ needs (W% (x15 + (1 : Int))) H10 ∧ M_ needs (W% (x15 + (1 : Int))) H10 < M_ needs x15 H4) (
 J_1 H10)))) (
 I_ needs (W% (x15 + (1 : Int))) H4 ∧ M_ needs (W% (x15 + (1 : Int))) H4 < M_ needs x15 H4))) (
 I_ needs (W% (x15 + (1 : Int))) H4 ∧ M_ needs (W% (x15 + (1 : Int))) H4 < M_ needs x15 H4)) (
 J_1 H4)) ∧ (∀ H11 : Heap, J_1 H11 → F_resources_windows_k2 function H1 x13 I_ M_ needs x15 H4 H11)) (
 iteB (x15 == (2 : Int)) (
 ∃ J_2 : P%, (
 iteB (x15 == (2 : Int)) (
 iteB high (
 b% x26 H4 (+%H1 5), (
 iteB x26 (
 CallsH Tryz.prog n_resources_prefAbove #[S%l, I%function] H4 (fun v6 H15 =>
 ∃ x27 : Bool, v6 = .bool x27 ∧ (
 iteB (!x27) (
 I_ needs (W% (x15 + (1 : Int))) H15 ∧ M_ needs (W% (x15 + (1 : Int))) H15 < M_ needs x15 H4) (
 J_2 H15)))) (
 I_ needs (W% (x15 + (1 : Int))) H4 ∧ M_ needs (W% (x15 + (1 : Int))) H4 < M_ needs x15 H4))) (
 I_ needs (W% (x15 + (1 : Int))) H4 ∧ M_ needs (W% (x15 + (1 : Int))) H4 < M_ needs x15 H4)) (
 J_2 H4)) ∧ (∀ H16 : Heap, J_2 H16 → F_resources_windows_k3 function H1 x14 I_ M_ needs x15 H4 H16)) (
 False))))) (
 R (S%needs) H4)
def F_resources_windows (R : V%) (l : Sl) (high : Bool) (function : Int) (below_0 below_1 below_2 : Sl) (H : Heap) : Prop :=
 h% H1 (H.push (.cells #[S%below_0, S%below_1, S%below_2] t_3_sl_int (0, 0))) (
 x% function l a ((
 f% x x1 x2 x3 x4 x5 x6 x7 x8 x9 x10 H1 (a.add (function.toNat * 11)), (
 h% H2 (H1.push (.cells #[Z%, Z%, Z%, Z%, .bool false, .bool false, .bool false, Z%, Z%, Z%, N%] t_api_Function (0, 0))) (
 okRow H2 &%H1 11 ∧ (
 h% H3 (wrs H2 &%H1 [I%x, I%x1, I%x2, I%x3, .bool x4, .bool x5, .bool x6, I%x7, I%x8, I%x9, S%x10]) (
 b% x11 H3 (+%H1 4), (
 iteB (!x11) (
 R (N%) H3) (
 s% x12 H3 &%H, s% x13 H3 (+%H 1), s% x14 H3 (+%H 2), (
 ∃ I_ : Sl → Int → P%, ∃ M_ : Sl → Int → M%, I_ (Sl.mk none 0 0) (0 : Int) H3 ∧ (∀ needs : Sl, ∀ x15 : Int, ∀ H4 : Heap, I_ needs x15 H4 → F_resources_windows_r4 R l high function H1 x12 x13 x14 I_ M_ needs x15 H4)))))))))))
theorem F_resources_windows_ok {R : V%} (l : Sl) (high : Bool) (function : Int) (below_0 below_1 below_2 : Sl) {H : Heap} (h : F_resources_windows R l high function below_0 below_1 below_2 H) : CallsH Tryz.prog n_resources_windows #[S%l, .bool high, I%function, .agg #[S%below_0, S%below_1, S%below_2]] H R := wpF_ok Tryz.func68 (show wpF Tryz.prog Tryz.f68 [(10, N%), (23, I%0)] [(9, [], [0, 1, 2, 9, 10, 11, 12, 22, 23])] [(6, [10, 23], [0, 1, 2, 9, 22])] [9] _ H R = F_resources_windows R l high function below_0 below_1 below_2 H by kernel_rfl) h
def F_resources_largest (R : V%) (classv : Int) (H : Heap) : Prop :=
 iteB (classv == (0 : Int)) (
 R (I%(15 : Int)) H) (
 iteB (classv == (1 : Int)) (
 R (I%(31 : Int)) H) (
 R (I%(44 : Int)) H))
theorem F_resources_largest_ok {R : V%} (classv : Int) {H : Heap} (h : F_resources_largest R classv H) : CallsH Tryz.prog n_resources_largest #[I%classv] H R := wpF_ok Tryz.func69 (show wpF Tryz.prog Tryz.f69 [] [] [] [9] _ H R = F_resources_largest R classv H by kernel_rfl) h
def F_hotplug_extension_find (R : V%) (x : Addr) (function index : Int) (H : Heap) : Prop :=
 h% H1 (H.push (.cells #[I%function] t_int (0, 0))) (
 h% H2 (H1.push (.cells #[I%index] t_int (0, 0))) (
 s% x1 H2 (x.add 2), (
 CallsH Tryz.prog n_slices_IndexFunc_sl_api_Need_api_Need #[S%x1, .func (.func 101) #[] #[.pointer (some &%H), .pointer (some &%H1)]] H2 (fun v H3 =>
 ∃ x2 : Int, v = I%x2 ∧ (
 R (I%x2) H3)))))
theorem F_hotplug_extension_find_ok {R : V%} (x : Addr) (function index : Int) {H : Heap} (h : F_hotplug_extension_find R x function index H) : CallsH Tryz.prog n_hotplug_extension_find #[.pointer (some x), I%function, I%index] H R := wpF_ok Tryz.func70 (show wpF Tryz.prog Tryz.f70 [] [] [] [9] _ H R = F_hotplug_extension_find R x function index H by kernel_rfl) h
def F_hotplug_extension_fill_r1 (R : V%) (x : Addr) (waiting x20 : Sl) (I_1 : Int → P%) (M_1 : Int → M%) (x26 : Int) (H18 : Heap) : Prop :=
 iteB (decide (x26 < (waiting.n : Int))) (
 x% x26 waiting a3 ((
 i% i H18 (a3.add (x26.toNat * 1)), (
 s% x27 H18 (x.add 3), (
 x% x26 x20 a4 ((
 u% x28 H18 (a4.add (x26.toNat * 1)), (
 x% i x27 a5 ((
 okRow H18 (a5.add (i.toNat * 1)) 1 ∧ (
 h% H19 (wrs H18 (a5.add (i.toNat * 1)) [U%x28]) (
 s% x29 H19 (x.add 4), (
 x% i x29 a6 ((
 okRow H19 (a6.add (i.toNat * 1)) 1 ∧ (
 h% H20 (wrs H19 (a6.add (i.toNat * 1)) [.bool true]) (
 I_1 (W% (x26 + (1 : Int))) H20 ∧ M_1 (W% (x26 + (1 : Int))) H20 < M_1 x26 H18))))))))))))))))) (
 R (.bool true) H18)
def F_hotplug_extension_fill_r2 (R : V%) (x : Addr) (bridge classv : Int) (x1 : Sl) (I_ : Sl → Sl → Sl → Int → P%) (M_ : Sl → Sl → Sl → Int → M%) (waiting sizes taken : Sl) (x2 : Int) (H1 : Heap) : Prop :=
 iteB (decide (x2 < (x1.n : Int))) (
 x% x2 x1 a ((
 i% x3 H1 (a.add (x2.toNat * 4)), i% x4 H1 ((a.add (x2.toNat * 4)).add 1), i% x5 H1 ((a.add (x2.toNat * 4)).add 2), i% x6 H1 ((a.add (x2.toNat * 4)).add 3), (
 h% H2 (H1.push (.cells #[Z%, Z%, Z%, Z%] t_api_Need (0, 0))) (
 okRow H2 &%H1 4 ∧ (
 h% H3 (wrs H2 &%H1 [I%x3, I%x4, I%x5, I%x6]) (
 i% x7 H3 (+%H1 2), (
 iteB (x7 != classv) (
 I_ waiting sizes taken (W% (x2 + (1 : Int))) H3 ∧ M_ waiting sizes taken (W% (x2 + (1 : Int))) H3 < M_ waiting sizes taken x2 H1) (
 s% x8 H3 x, (
 i% x9 H3 &%H1, (
 x% x9 x8 a1 ((
 i% x10 H3 (a1.add (x9.toNat * 11)), (
 iteB (x10 != bridge) (
 I_ waiting sizes taken (W% (x2 + (1 : Int))) H3 ∧ M_ waiting sizes taken (W% (x2 + (1 : Int))) H3 < M_ waiting sizes taken x2 H1) (
 i% x11 H3 &%H1, (
 i% x12 H3 (x.add 1), (
 iteB (decide (x11 < x12)) (
 CallsH Tryz.prog n_hotplug_extension_span #[.pointer (some x), I%x2] H3 (fun v H4 =>
 ∃ x13 x14 : Int, v = .agg #[U%x13, U%x14] ∧ (
 h% H5 (H4.push (.cells #[U%x13, U%x14] t_api_Range (0, 0))) (
 runH Tryz.prog (Builtin.append_ #[t_sl_api_Range, t_sl_api_Range] t_sl_api_Range #[S%taken, .slice (some &%H4) 1 1]) H5 (fun v1 H6 =>
 ∃ taken1 : Sl, v1 = S%taken1 ∧ (
 I_ waiting sizes taken1 (W% (x2 + (1 : Int))) H6 ∧ M_ waiting sizes taken1 (W% (x2 + (1 : Int))) H6 < M_ waiting sizes taken x2 H1)))))) (
 h% H7 (H3.push (.cells #[I%x2] t_int (0, 0))) (
 runH Tryz.prog (Builtin.append_ #[t_sl_int, t_sl_int] t_sl_int #[S%waiting, .slice (some &%H3) 1 1]) H7 (fun v2 H8 =>
 ∃ waiting1 : Sl, v2 = S%waiting1 ∧ (
 i% x15 H8 (+%H1 3), (
 h% H9 (H8.push (.cells #[I%x15] t_int (0, 0))) (
 runH Tryz.prog (Builtin.append_ #[t_sl_int, t_sl_int] t_sl_int #[S%sizes, .slice (some &%H8) 1 1]) H9 (fun v3 H10 =>
 ∃ sizes1 : Sl, v3 = S%sizes1 ∧ (
 I_ waiting1 sizes1 taken (W% (x2 + (1 : Int))) H10 ∧ M_ waiting1 sizes1 taken (W% (x2 + (1 : Int))) H10 < M_ waiting sizes taken x2 H1))))))))))))))))))))))))) (
 iteB ((waiting.n : Int) == (0 : Int)) (
 R (.bool true) H1) (
 CallsH Tryz.prog n_hotplug_extension_find #[.pointer (some x), I%bridge, I%(W% ((-1 : Int) - classv))] H1 (fun v4 H11 =>
 ∃ window : Int, v4 = I%window ∧ (
 iteB (decide (window < (0 : Int))) (
 R (.bool false) H11) (
 s% x16 H11 (x.add 4), (
 x% window x16 a2 ((
 b% x17 H11 (a2.add (window.toNat * 1)), (
 iteB (!x17) (
 R (.bool false) H11) (
 CallsH Tryz.prog n_hotplug_extension_span #[.pointer (some x), I%window] H11 (fun v5 H12 =>
 ∃ x18 x19 : Int, v5 = .agg #[U%x18, U%x19] ∧ (
 h% H13 (H12.push (.cells #[U%x18, U%x19] t_api_Range (0, 0))) (
 CallsH Tryz.prog n_allocate_Free #[.slice (some &%H12) 1 1, S%taken] H13 (fun v6 H14 =>
 ∃ free : Sl, v6 = S%free ∧ (
 CallsH Tryz.prog n_allocate_Place #[S%free, S%sizes] H14 (fun v7 H15 =>
 ∃ x20 : Sl, ∃ x21 x22 : Int, ∃ x23 x24 x25 : Int, v7 = .tuple #[S%x20, .agg #[I%x21, I%x22, U%x23, U%x24], I%x25] ∧ (
 h% H16 (H15.push (.cells #[Z%, Z%, U%(0 : Int), U%(0 : Int)] t_api_Certificate (0, 0))) (
 okRow H16 &%H15 4 ∧ (
 h% H17 (wrs H16 &%H15 [I%x21, I%x22, U%x23, U%x24]) (
 iteB (x25 != (0 : Int)) (
 R (.bool false) H17) (
 ∃ I_1 : Int → P%, ∃ M_1 : Int → M%, I_1 (0 : Int) H17 ∧ (∀ x26 : Int, ∀ H18 : Heap, I_1 x26 H18 → F_hotplug_extension_fill_r1 R x waiting x20 I_1 M_1 x26 H18))))))))))))))))))))))
def F_hotplug_extension_fill (R : V%) (x : Addr) (bridge classv : Int) (H : Heap) : Prop :=
 s% x1 H (x.add 2), (
 ∃ I_ : Sl → Sl → Sl → Int → P%, ∃ M_ : Sl → Sl → Sl → Int → M%, I_ (Sl.mk none 0 0) (Sl.mk none 0 0) (Sl.mk none 0 0) (0 : Int) H ∧ (∀ waiting sizes taken : Sl, ∀ x2 : Int, ∀ H1 : Heap, I_ waiting sizes taken x2 H1 → F_hotplug_extension_fill_r2 R x bridge classv x1 I_ M_ waiting sizes taken x2 H1))
theorem F_hotplug_extension_fill_ok {R : V%} (x : Addr) (bridge classv : Int) {H : Heap} (h : F_hotplug_extension_fill R x bridge classv H) : CallsH Tryz.prog n_hotplug_extension_fill #[.pointer (some x), I%bridge, I%classv] H R := wpF_ok Tryz.func71 (show wpF Tryz.prog Tryz.f71 [(7, N%), (8, N%), (9, N%), (24, I%0), (106, I%0)] [] [(4, [7, 8, 9, 24], [0, 1, 2, 22, 23]), (22, [106], [0, 14, 104, 105])] [9] _ H R = F_hotplug_extension_fill R x bridge classv H by kernel_rfl) h
def F_hotplug_writeMove (R : V%) (x_0 x_1 x_2 x_3 x_4 : Int) (H : Heap) : Prop :=
 h% H1 (H.push (.cells #[I%x_0, I%x_1, I%x_2, I%x_3, U%x_4] t_api_Assignment (0, 0))) (
 h% H2 (H1.push (.cells #[Z%, Z%, Z%, U%(0 : Int)] t_api_Move (0, 0))) (
 i% x H2 &%H, (
 i% x1 H2 (+%H 1), (
 u% x2 H2 (+%H 4), (
 okRow H2 &%H1 4 ∧ (
 h% H3 (wrs H2 &%H1 [I%(2 : Int), I%x, I%x1, U%x2]) (
 i% r H3 &%H1, i% r1 H3 (+%H1 1), i% r2 H3 (+%H1 2), u% r3 H3 (+%H1 3), (
 R (.agg #[I%r, I%r1, I%r2, U%r3]) H3))))))))
theorem F_hotplug_writeMove_ok {R : V%} (x_0 x_1 x_2 x_3 x_4 : Int) {H : Heap} (h : F_hotplug_writeMove R x_0 x_1 x_2 x_3 x_4 H) : CallsH Tryz.prog n_hotplug_writeMove #[.agg #[I%x_0, I%x_1, I%x_2, I%x_3, U%x_4]] H R := wpF_ok Tryz.func72 (show wpF Tryz.prog Tryz.f72 [] [] [] [9] _ H R = F_hotplug_writeMove R x_0 x_1 x_2 x_3 x_4 H by kernel_rfl) h
def F_allocate_placeBelow_k1 (a : Sl) (I_ : Sl → Sl → Int → P%) (M_ : Sl → Sl → Int → M%) (items sizes : Sl) (x : Int) (H2 : Heap) (x4 : Bool) (H3 : Heap) : Prop :=
 iteB x4 (
 h% H4 (H3.push (.cells #[I%x] t_int (0, 0))) (
 runH Tryz.prog (Builtin.append_ #[t_sl_int, t_sl_int] t_sl_int #[S%items, .slice (some &%H3) 1 1]) H4 (fun v H5 =>
 ∃ items1 : Sl, v = S%items1 ∧ (
 x% x a a4 ((
 i% x5 H5 ((a4.add (x.toNat * 5)).add 3), (
 h% H6 (H5.push (.cells #[I%x5] t_int (0, 0))) (
 runH Tryz.prog (Builtin.append_ #[t_sl_int, t_sl_int] t_sl_int #[S%sizes, .slice (some &%H5) 1 1]) H6 (fun v1 H7 =>
 ∃ sizes1 : Sl, v1 = S%sizes1 ∧ (
 I_ items1 sizes1 (W% (x + (1 : Int))) H7 ∧ M_ items1 sizes1 (W% (x + (1 : Int))) H7 < M_ items sizes x H2)))))))))) (
 I_ items sizes (W% (x + (1 : Int))) H3 ∧ M_ items sizes (W% (x + (1 : Int))) H3 < M_ items sizes x H2)
def F_allocate_placeBelow_r2 (R : V%) (H : Heap) (a items x6 : Sl) (I_1 : Int → P%) (M_1 : Int → M%) (x16 : Int) (H13 : Heap) : Prop :=
 iteB (decide (x16 < (items.n : Int))) (
 x% x16 items a5 ((
 i% i H13 (a5.add (x16.toNat * 1)), (
 x% x16 x6 a6 ((
 u% x17 H13 (a6.add (x16.toNat * 1)), (
 x% i a a7 ((
 okRow H13 ((a7.add (i.toNat * 5)).add 4) 1 ∧ (
 h% H14 (wrs H13 ((a7.add (i.toNat * 5)).add 4) [U%x17]) (
 I_1 (W% (x16 + (1 : Int))) H14 ∧ M_1 (W% (x16 + (1 : Int))) H14 < M_1 x16 H13))))))))))) (
 okRow H13 &%H 4 ∧ (
 h% H15 (wrs H13 &%H [Z%, Z%, U%(0 : Int), U%(0 : Int)]) (
 i% r4 H15 &%H, i% r5 H15 (+%H 1), u% r6 H15 (+%H 2), u% r7 H15 (+%H 3), (
 R (.tuple #[.agg #[I%r4, I%r5, U%r6, U%r7], Z%]) H15))))
def F_allocate_placeBelow_r3 (R : V%) (H : Heap) (l a : Sl) (bridge classv : Int) (free : Sl) (I_ : Sl → Sl → Int → P%) (M_ : Sl → Sl → Int → M%) (items sizes : Sl) (x : Int) (H2 : Heap) : Prop :=
 iteB (decide (x < (a.n : Int))) (
 ∃ J_ : Bool → P%, (
 x% x a a1 ((
 i% x1 H2 ((a1.add (x.toNat * 5)).add 2), (
 iteB (x1 == classv) (
 x% x a a2 ((
 i% x2 H2 (a2.add (x.toNat * 5)), (
 x% x2 l a3 ((
 i% x3 H2 (a3.add (x2.toNat * 11)), (
 J_ (x3 == bridge) H2))))))) (
 J_ false H2))))) ∧ (∀ x4 : Bool, ∀ H3 : Heap, J_ x4 H3 → F_allocate_placeBelow_k1 a I_ M_ items sizes x H2 x4 H3)) (
 CallsH Tryz.prog n_allocate_Place #[S%free, S%sizes] H2 (fun v2 H8 =>
 ∃ x6 : Sl, ∃ x7 x8 : Int, ∃ x9 x10 x11 : Int, v2 = .tuple #[S%x6, .agg #[I%x7, I%x8, U%x9, U%x10], I%x11] ∧ (
 h% H9 (H8.push (.cells #[Z%, Z%, U%(0 : Int), U%(0 : Int)] t_api_Certificate (0, 0))) (
 okRow H9 &%H8 4 ∧ (
 h% H10 (wrs H9 &%H8 [I%x7, I%x8, U%x9, U%x10]) (
 iteB (x11 != (0 : Int)) (
 okRow H10 &%H8 1 ∧ (
 h% H11 (wrs H10 &%H8 [I%classv]) (
 i% x12 H11 &%H8, i% x13 H11 (+%H8 1), u% x14 H11 (+%H8 2), u% x15 H11 (+%H8 3), (
 okRow H11 &%H 4 ∧ (
 h% H12 (wrs H11 &%H [I%x12, I%x13, U%x14, U%x15]) (
 i% r H12 &%H, i% r1 H12 (+%H 1), u% r2 H12 (+%H 2), u% r3 H12 (+%H 3), (
 R (.tuple #[.agg #[I%r, I%r1, U%r2, U%r3], I%x11]) H12))))))) (
 ∃ I_1 : Int → P%, ∃ M_1 : Int → M%, I_1 (0 : Int) H10 ∧ (∀ x16 : Int, ∀ H13 : Heap, I_1 x16 H13 → F_allocate_placeBelow_r2 R H a items x6 I_1 M_1 x16 H13))))))))
def F_allocate_placeBelow (R : V%) (l a : Sl) (bridge classv : Int) (free : Sl) (H : Heap) : Prop :=
 h% H1 (H.push (.cells #[Z%, Z%, U%(0 : Int), U%(0 : Int)] t_api_Certificate (0, 0))) (
 ∃ I_ : Sl → Sl → Int → P%, ∃ M_ : Sl → Sl → Int → M%, I_ (Sl.mk none 0 0) (Sl.mk none 0 0) (0 : Int) H1 ∧ (∀ items sizes : Sl, ∀ x : Int, ∀ H2 : Heap, I_ items sizes x H2 → F_allocate_placeBelow_r3 R H l a bridge classv free I_ M_ items sizes x H2))
theorem F_allocate_placeBelow_ok {R : V%} (l a : Sl) (bridge classv : Int) (free : Sl) {H : Heap} (h : F_allocate_placeBelow R l a bridge classv free H) : CallsH Tryz.prog n_allocate_placeBelow #[S%l, S%a, I%bridge, I%classv, S%free] H R := wpF_ok Tryz.func73 (show wpF Tryz.prog Tryz.f73 [(12, N%), (13, N%), (22, I%0), (46, .bool false), (76, I%0)] [(6, [46], [0, 1, 2, 3, 4, 10, 12, 13, 14, 21, 22])] [(3, [12, 13, 22], [0, 1, 2, 3, 4, 10, 21]), (14, [76], [1, 10, 15, 74, 75])] [9] _ H R = F_allocate_placeBelow R l a bridge classv free H by kernel_rfl) h
def F_hotplug_byFunction_k1 (H : Heap) (count : Int) (I_ : Int → P%) (M_ : Int → M%) (x : Int) (H2 : Heap) (f : Int) (x6 : Bool) (H5 : Heap) : Prop :=
 iteB x6 (
 0 ≤ f ∧ f < (count.toNat : Int) ∧ (s% x7 H5 ((&%H).add (f.toNat * 1)), (
 a% x8 x9 x10 x11 x12 H5 &%H2, (
 h% H6 (H5.push (.cells #[I%x8, I%x9, I%x10, I%x11, U%x12] t_api_Assignment (0, 0))) (
 Keeps H5 H6 [(((&%H).add (f.toNat * 1)), 1)] ∧ (
 runH Tryz.prog (Builtin.append_ #[t_sl_api_Assignment, t_sl_api_Assignment] t_sl_api_Assignment #[S%x7, .slice (some &%H5) 1 1]) H6 (fun v H7 =>
 ∃ x13 : Sl, v = S%x13 ∧ (
 0 ≤ f ∧ f < (count.toNat : Int) ∧ (okRow H7 ((&%H).add (f.toNat * 1)) 1 ∧ (
 h% H8 (wrs H7 ((&%H).add (f.toNat * 1)) [S%x13]) (
 I_ (W% (x + (1 : Int))) H8 ∧ M_ (W% (x + (1 : Int))) H8 < M_ x H2))))))))))) (
 I_ (W% (x + (1 : Int))) H5 ∧ M_ (W% (x + (1 : Int))) H5 < M_ x H2)
def F_hotplug_byFunction_r2 (R : V%) (H : Heap) (a : Sl) (count : Int) (I_ : Int → P%) (M_ : Int → M%) (x : Int) (H2 : Heap) : Prop :=
 iteB (decide (x < (a.n : Int))) (
 x% x a a1 ((
 a% x1 x2 x3 x4 x5 H2 (a1.add (x.toNat * 5)), (
 h% H3 (H2.push (.cells #[Z%, Z%, Z%, Z%, U%(0 : Int)] t_api_Assignment (0, 0))) (
 okRow H3 &%H2 5 ∧ (
 h% H4 (wrs H3 &%H2 [I%x1, I%x2, I%x3, I%x4, U%x5]) (
 i% f H4 &%H2, (
 ∃ J_ : Bool → P%, (
 iteB (decide (f ≥ (0 : Int))) (
 J_ (decide (f < count)) H4) (
 J_ false H4)) ∧ (∀ x6 : Bool, ∀ H5 : Heap, J_ x6 H5 → F_hotplug_byFunction_k1 H count I_ M_ x H2 f x6 H5))))))))) (
 R (.slice (some &%H) count.toNat count.toNat) H2)
def F_hotplug_byFunction (R : V%) (a : Sl) (count : Int) (H : Heap) : Prop :=
 0 ≤ count ∧ count ≤ count ∧ count * ((24 : Nat) : Int) ≤ 281474976710656 ∧ (
 h% H1 (H.push (.cells (zeroRow (N%) count.toNat) t_sl_api_Assignment (0, 0))) (
 ∃ I_ : Int → P%, ∃ M_ : Int → M%, I_ (0 : Int) H1 ∧ (∀ x : Int, ∀ H2 : Heap, I_ x H2 → F_hotplug_byFunction_r2 R H a count I_ M_ x H2)))
theorem F_hotplug_byFunction_ok {R : V%} (a : Sl) (count : Int) {H : Heap} (h : F_hotplug_byFunction R a count H) : CallsH Tryz.prog n_hotplug_byFunction #[S%a, I%count] H R := wpF_ok Tryz.func74 (show wpF Tryz.prog Tryz.f74 [(13, I%0), (26, .bool false)] [(7, [26], [1, 5, 7, 8, 11, 12, 13])] [(3, [13], [1, 5, 11, 12])] [9] _ H R = F_hotplug_byFunction R a count H by kernel_rfl) h
def F_slices_Equal_sl_api_Assignment_api_Assignment_r1 (R : V%) (s1 s2 : Sl) (I_ : Int → P%) (M_ : Int → M%) (x : Int) (H1 : Heap) : Prop :=
 iteB (decide (x < (s1.n : Int))) (
 x% x s1 a ((
 a% x1 x2 x3 x4 x5 H1 (a.add (x.toNat * 5)), (
 x% x s2 a1 ((
 a% x6 x7 x8 x9 x10 H1 (a1.add (x.toNat * 5)), (
 iteB (!(((x1 == x6) && ((x2 == x7) && ((x3 == x8) && ((x4 == x9) && true)))) && ((x5 == x10) && true))) (
 R (.bool false) H1) (
 I_ (W% (x + (1 : Int))) H1 ∧ M_ (W% (x + (1 : Int))) H1 < M_ x H1)))))))) (
 R (.bool true) H1)
def F_slices_Equal_sl_api_Assignment_api_Assignment (R : V%) (s1 s2 : Sl) (H : Heap) : Prop :=
 iteB ((s1.n : Int) != (s2.n : Int)) (
 R (.bool false) H) (
 ∃ I_ : Int → P%, ∃ M_ : Int → M%, I_ (0 : Int) H ∧ (∀ x : Int, ∀ H1 : Heap, I_ x H1 → F_slices_Equal_sl_api_Assignment_api_Assignment_r1 R s1 s2 I_ M_ x H1))
theorem F_slices_Equal_sl_api_Assignment_api_Assignment_ok {R : V%} (s1 s2 : Sl) {H : Heap} (h : F_slices_Equal_sl_api_Assignment_api_Assignment R s1 s2 H) : CallsH Tryz.prog n_slices_Equal_sl_api_Assignment_api_Assignment #[S%s1, S%s2] H R := wpF_ok Tryz.func75 (show wpF Tryz.prog Tryz.f75 [(13, I%0)] [] [(4, [13], [0, 1, 12])] [9] _ H R = F_slices_Equal_sl_api_Assignment_api_Assignment R s1 s2 H by kernel_rfl) h
def F_hotplug_Slot_enter (R : V%) (s : Addr) (state : Int) (actions : Sl) (H : Heap) : Prop :=
 okRow H s 1 ∧ (
 h% H1 (wrs H s [I%state]) (
 iteB (state != (3 : Int)) (
 okRow H1 (s.add 2) 1 ∧ (
 h% H2 (wrs H1 (s.add 2) [U%(0 : Int)]) (
 R (.tuple #[S%actions, Z%]) H2))) (
 R (.tuple #[S%actions, Z%]) H1)))
theorem F_hotplug_Slot_enter_ok {R : V%} (s : Addr) (state : Int) (actions : Sl) {H : Heap} (h : F_hotplug_Slot_enter R s state actions H) : CallsH Tryz.prog n_hotplug_Slot_enter #[.pointer (some s), I%state, S%actions] H R := wpF_ok Tryz.func80 (show wpF Tryz.prog Tryz.f80 [] [] [] [9] _ H R = F_hotplug_Slot_enter R s state actions H by kernel_rfl) h
def F_hotplug_saturatingSum (R : V%) (a b : Int) (H : Heap) : Prop :=
 iteB (decide (a > (w% ((18446744073709551615 : Int) - b)))) (
 R (U%(18446744073709551615 : Int)) H) (
 v% x (w% (a + b)) (
 R (U%x) H))
theorem F_hotplug_saturatingSum_ok {R : V%} (a b : Int) {H : Heap} (h : F_hotplug_saturatingSum R a b H) : CallsH Tryz.prog n_hotplug_saturatingSum #[U%a, U%b] H R := wpF_ok Tryz.func81 (show wpF Tryz.prog Tryz.f81 [] [] [] [9] _ H R = F_hotplug_saturatingSum R a b H by kernel_rfl) h
def F_pciconf_Valid_r1 (R : V%) (H : Heap) (x23 : Sl) (I_ : Int → P%) (M_ : Int → M%) (x24 : Int) (H5 : Heap) : Prop :=
 iteB (decide (x24 < (x23.n : Int))) (
 s% x25 H5 (+%H 10), (
 CallsH Tryz.prog n_pciconf_validBar #[S%x25, I%x24] H5 (fun v1 H6 =>
 ∃ x26 : Bool, v1 = .bool x26 ∧ (
 iteB (!x26) (
 R (.bool false) H6) (
 I_ (W% (x24 + (1 : Int))) H6 ∧ M_ (W% (x24 + (1 : Int))) H6 < M_ x24 H5))))) (
 R (.bool true) H5)
def F_pciconf_Valid_k2 (R : V%) (H H3 : Heap) : Prop :=
 s% x20 H3 (+%H 10), (
 b% x21 H3 (+%H 4), (
 CallsH Tryz.prog n_pciconf_registers #[.bool x21] H3 (fun v H4 =>
 ∃ x22 : Int, v = I%x22 ∧ (
 Keeps H3 H4 [((+%H 10), 1)] ∧ (
 iteB (decide ((x20.n : Int) > x22)) (
 R (.bool false) H4) (
 s% x23 H4 (+%H 10), (
 ∃ I_ : Int → P%, ∃ M_ : Int → M%, I_ (0 : Int) H4 ∧ (∀ x24 : Int, ∀ H5 : Heap, I_ x24 H5 → F_pciconf_Valid_r1 R H x23 I_ M_ x24 H5))))))))
def F_pciconf_Valid_k3 (R : V%) (H H2 : Heap) : Prop :=
 ∃ J_1 : P%, (
 b% x17 H2 (+%H 4), (
 iteB (!x17) (
 b% x18 H2 (+%H 5), (
 iteB x18 (
 R (.bool false) H2) (
 b% x19 H2 (+%H 6), (
 iteB x19 (
 R (.bool false) H2) (
 J_1 H2))))) (
 J_1 H2))) ∧ (∀ H3 : Heap, J_1 H3 → F_pciconf_Valid_k2 R H H3)
def F_pciconf_Valid (R : V%) (f_0 f_1 f_2 f_3 : Int) (f_4 f_5 f_6 : Bool) (f_7 f_8 f_9 : Int) (f_10 : Sl) (H : Heap) : Prop :=
 h% H1 (H.push (.cells #[I%f_0, I%f_1, I%f_2, I%f_3, .bool f_4, .bool f_5, .bool f_6, I%f_7, I%f_8, I%f_9, S%f_10] t_api_Function (0, 0))) (
 i% x H1 (+%H 2), (
 iteB (decide (x < (1 : Int))) (
 R (.bool false) H1) (
 i% x1 H1 (+%H 2), (
 iteB (decide (x1 > (65534 : Int))) (
 R (.bool false) H1) (
 i% x2 H1 (+%H 3), (
 iteB (decide (x2 < (0 : Int))) (
 R (.bool false) H1) (
 i% x3 H1 (+%H 3), (
 iteB (decide (x3 > (65535 : Int))) (
 R (.bool false) H1) (
 i% x4 H1 (+%H 1), (
 iteB (decide (x4 < (0 : Int))) (
 R (.bool false) H1) (
 i% x5 H1 (+%H 1), (
 iteB (decide (x5 > (31 : Int))) (
 R (.bool false) H1) (
 i% x6 H1 (+%H 8), (
 iteB (decide (x6 < (0 : Int))) (
 R (.bool false) H1) (
 i% x7 H1 (+%H 8), (
 iteB (decide (x7 > (4 : Int))) (
 R (.bool false) H1) (
 i% x8 H1 (+%H 9), (
 iteB (decide (x8 < (0 : Int))) (
 R (.bool false) H1) (
 i% x9 H1 (+%H 9), (
 iteB (decide (x9 > (32 : Int))) (
 R (.bool false) H1) (
 i% x10 H1 (+%H 9), (
 i% x11 H1 (+%H 9), (
 iteB ((bitsAnd .i64 x10 (W% (x11 - (1 : Int)))) != (0 : Int)) (
 R (.bool false) H1) (
 ∃ J_ : P%, (
 i% x12 H1 (+%H 7), (
 iteB (decide (x12 < (0 : Int))) (
 R (.bool false) H1) (
 i% x13 H1 (+%H 7), (
 iteB (decide (x13 > (32 : Int))) (
 R (.bool false) H1) (
 i% x14 H1 (+%H 7), (
 iteB (decide (x14 > (0 : Int))) (
 b% x15 H1 (+%H 4), (
 iteB x15 (
 b% x16 H1 (+%H 6), (
 iteB (!x16) (
 R (.bool false) H1) (
 J_ H1))) (
 R (.bool false) H1))) (
 J_ H1))))))) ∧ (∀ H2 : Heap, J_ H2 → F_pciconf_Valid_k3 R H H2)))))))))))))))))))))))))
theorem F_pciconf_Valid_ok {R : V%} (f_0 f_1 f_2 f_3 : Int) (f_4 f_5 f_6 : Bool) (f_7 f_8 f_9 : Int) (f_10 : Sl) {H : Heap} (h : F_pciconf_Valid R f_0 f_1 f_2 f_3 f_4 f_5 f_6 f_7 f_8 f_9 f_10 H) : CallsH Tryz.prog n_pciconf_Valid #[.agg #[I%f_0, I%f_1, I%f_2, I%f_3, .bool f_4, .bool f_5, .bool f_6, I%f_7, I%f_8, I%f_9, S%f_10]] H R := wpF_ok Tryz.func82 (show wpF Tryz.prog Tryz.f82 [(100, I%0)] [(9, [], [1]), (11, [], [1])] [(14, [100], [1, 99])] [9] _ H R = F_pciconf_Valid R f_0 f_1 f_2 f_3 f_4 f_5 f_6 f_7 f_8 f_9 f_10 H by kernel_rfl) h
def F_allocate_validRanges (R : V%) (l : Sl) (H : Heap) : Prop :=
 iteB (decide ((l.n : Int) ≤ (1024 : Int))) (
 CallsH Tryz.prog n_allocate_within #[S%l, U%(0 : Int), U%(4503599627370496 : Int)] H (fun v H1 =>
 ∃ x : Bool, v = .bool x ∧ (
 R (.bool x) H1))) (
 R (.bool false) H)
theorem F_allocate_validRanges_ok {R : V%} (l : Sl) {H : Heap} (h : F_allocate_validRanges R l H) : CallsH Tryz.prog n_allocate_validRanges #[S%l] H R := wpF_ok Tryz.func83 (show wpF Tryz.prog Tryz.f83 [] [] [] [9] _ H R = F_allocate_validRanges R l H by kernel_rfl) h
def F_allocate_within_r1 (R : V%) (l : Sl) (base endv : Int) (I_ : Int → P%) (M_ : Int → M%) (x : Int) (H1 : Heap) : Prop :=
 iteB (decide (x < (l.n : Int))) (
 x% x l a ((
 u% x1 H1 (a.add (x.toNat * 2)), u% x2 H1 ((a.add (x.toNat * 2)).add 1), (
 h% H2 (H1.push (.cells #[U%(0 : Int), U%(0 : Int)] t_api_Range (0, 0))) (
 okRow H2 &%H1 2 ∧ (
 h% H3 (wrs H2 &%H1 [U%x1, U%x2]) (
 u% x3 H3 (+%H1 1), (
 iteB (decide (x3 < (1 : Int))) (
 R (.bool false) H3) (
 u% x4 H3 &%H1, (
 iteB (decide (x4 < base)) (
 R (.bool false) H3) (
 u% x5 H3 &%H1, (
 iteB (decide (x5 > endv)) (
 R (.bool false) H3) (
 u% x6 H3 (+%H1 1), (
 u% x7 H3 &%H1, (
 iteB (decide (x6 > (w% (endv - x7)))) (
 R (.bool false) H3) (
 I_ (W% (x + (1 : Int))) H3 ∧ M_ (W% (x + (1 : Int))) H3 < M_ x H1)))))))))))))))) (
 R (.bool true) H1)
def F_allocate_within (R : V%) (l : Sl) (base endv : Int) (H : Heap) : Prop :=
 ∃ I_ : Int → P%, ∃ M_ : Int → M%, I_ (0 : Int) H ∧ (∀ x : Int, ∀ H1 : Heap, I_ x H1 → F_allocate_within_r1 R l base endv I_ M_ x H1)
theorem F_allocate_within_ok {R : V%} (l : Sl) (base endv : Int) {H : Heap} (h : F_allocate_within R l base endv H) : CallsH Tryz.prog n_allocate_within #[S%l, U%base, U%endv] H R := wpF_ok Tryz.func84 (show wpF Tryz.prog Tryz.f84 [(11, I%0)] [] [(2, [11], [1, 2, 9, 10])] [9] _ H R = F_allocate_within R l base endv H by kernel_rfl) h
def F_allocate_Free_k1 (endv : Int) (I_1 : Sl → Int → Int → P%) (M_1 : Sl → Int → Int → M%) (result1 : Sl) (base1 x8 : Int) (H8 : Heap) (holeEnd : Int) (result3 : Sl) (H13 : Heap) : Prop :=
 v% base2 (if holeEnd < endv then holeEnd else endv) (
 I_1 result3 base2 (W% (x8 + (1 : Int))) H13 ∧ M_1 result3 base2 (W% (x8 + (1 : Int))) H13 < M_1 result1 base1 x8 H8)
def F_allocate_Free_r2 (holes : Sl) (I_ : Sl → Int → P%) (M_ : Sl → Int → M%) (result : Sl) (x3 : Int) (H5 : Heap) (endv : Int) (I_1 : Sl → Int → Int → P%) (M_1 : Sl → Int → Int → M%) (result1 : Sl) (base1 x8 : Int) (H8 : Heap) : Prop :=
 iteB (decide (x8 < (holes.n : Int))) (
 x% x8 holes a1 ((
 u% x9 H8 (a1.add (x8.toNat * 2)), u% x10 H8 ((a1.add (x8.toNat * 2)).add 1), (
 h% H9 (H8.push (.cells #[U%(0 : Int), U%(0 : Int)] t_api_Range (0, 0))) (
 okRow H9 &%H8 2 ∧ (
 h% H10 (wrs H9 &%H8 [U%x9, U%x10]) (
 u% x11 H10 &%H8, (
 u% x12 H10 (+%H8 1), (
 v% holeEnd (w% (x11 + x12)) (
 iteB (decide (holeEnd ≤ base1)) (
 I_1 result1 base1 (W% (x8 + (1 : Int))) H10 ∧ M_1 result1 base1 (W% (x8 + (1 : Int))) H10 < M_1 result1 base1 x8 H8) (
 u% x13 H10 &%H8, (
 iteB (decide (x13 ≥ endv)) (
 I_1 result1 base1 (W% (x8 + (1 : Int))) H10 ∧ M_1 result1 base1 (W% (x8 + (1 : Int))) H10 < M_1 result1 base1 x8 H8) (
 ∃ J_ : Sl → P%, (
 u% x14 H10 &%H8, (
 iteB (decide (x14 > base1)) (
 u% x15 H10 &%H8, (
 h% H11 (H10.push (.cells #[U%base1, U%(w% (x15 - base1))] t_api_Range (0, 0))) (
 runH Tryz.prog (Builtin.append_ #[t_sl_api_Range, t_sl_api_Range] t_sl_api_Range #[S%result1, .slice (some &%H10) 1 1]) H11 (fun v4 H12 =>
 ∃ result2 : Sl, v4 = S%result2 ∧ (
 J_ result2 H12))))) (
 J_ result1 H10))) ∧ (∀ result3 : Sl, ∀ H13 : Heap, J_ result3 H13 → F_allocate_Free_k1 endv I_1 M_1 result1 base1 x8 H8 holeEnd result3 H13)))))))))))))) (
 iteB (decide (base1 < endv)) (
 h% H14 (H8.push (.cells #[U%base1, U%(w% (endv - base1))] t_api_Range (0, 0))) (
 runH Tryz.prog (Builtin.append_ #[t_sl_api_Range, t_sl_api_Range] t_sl_api_Range #[S%result1, .slice (some &%H8) 1 1]) H14 (fun v5 H15 =>
 ∃ result4 : Sl, v5 = S%result4 ∧ (
 I_ result4 (W% (x3 + (1 : Int))) H15 ∧ M_ result4 (W% (x3 + (1 : Int))) H15 < M_ result x3 H5)))) (
 I_ result1 (W% (x3 + (1 : Int))) H8 ∧ M_ result1 (W% (x3 + (1 : Int))) H8 < M_ result x3 H5))
def F_allocate_Free_r3 (R : V%) (holes x2 : Sl) (I_ : Sl → Int → P%) (M_ : Sl → Int → M%) (result : Sl) (x3 : Int) (H5 : Heap) : Prop :=
 iteB (decide (x3 < (x2.n : Int))) (
 x% x3 x2 a ((
 u% x4 H5 (a.add (x3.toNat * 2)), u% x5 H5 ((a.add (x3.toNat * 2)).add 1), (
 h% H6 (H5.push (.cells #[U%(0 : Int), U%(0 : Int)] t_api_Range (0, 0))) (
 okRow H6 &%H5 2 ∧ (
 h% H7 (wrs H6 &%H5 [U%x4, U%x5]) (
 u% base H7 &%H5, (
 u% x6 H7 &%H5, (
 u% x7 H7 (+%H5 1), (
 v% endv (w% (x6 + x7)) (
 ∃ I_1 : Sl → Int → Int → P%, ∃ M_1 : Sl → Int → Int → M%, I_1 result base (0 : Int) H7 ∧ (∀ result1 : Sl, ∀ base1 x8 : Int, ∀ H8 : Heap, I_1 result1 base1 x8 H8 → F_allocate_Free_r2 holes I_ M_ result x3 H5 endv I_1 M_1 result1 base1 x8 H8)))))))))))) (
 R (S%result) H5)
def F_allocate_Free (R : V%) (l fixed : Sl) (H : Heap) : Prop :=
 CallsH Tryz.prog n_allocate_validRanges #[S%l] H (fun v H1 =>
 ∃ x : Bool, v = .bool x ∧ (
 iteB (!x) (
 R (N%) H1) (
 CallsH Tryz.prog n_allocate_validRanges #[S%fixed] H1 (fun v1 H2 =>
 ∃ x1 : Bool, v1 = .bool x1 ∧ (
 iteB (!x1) (
 R (N%) H2) (
 CallsH Tryz.prog n_allocate_merged #[S%fixed] H2 (fun v2 H3 =>
 ∃ holes : Sl, v2 = S%holes ∧ (
 CallsH Tryz.prog n_allocate_merged #[S%l] H3 (fun v3 H4 =>
 ∃ x2 : Sl, v3 = S%x2 ∧ (
 ∃ I_ : Sl → Int → P%, ∃ M_ : Sl → Int → M%, I_ (Sl.mk none 0 0) (0 : Int) H4 ∧ (∀ result : Sl, ∀ x3 : Int, ∀ H5 : Heap, I_ result x3 H5 → F_allocate_Free_r3 R holes x2 I_ M_ result x3 H5)))))))))))
theorem F_allocate_Free_ok {R : V%} (l fixed : Sl) {H : Heap} (h : F_allocate_Free R l fixed H) : CallsH Tryz.prog n_allocate_Free #[S%l, S%fixed] H R := wpF_ok Tryz.func85 (show wpF Tryz.prog Tryz.f85 [(5, N%), (9, U%0), (27, I%0), (40, I%0)] [(16, [5], [6, 10, 13, 25, 26, 27, 38, 39, 40])] [(6, [5, 27], [6, 25, 26]), (10, [5, 9, 40], [6, 10, 25, 26, 27, 38, 39])] [9] _ H R = F_allocate_Free R l fixed H by kernel_rfl) h
def F_ref18_ValidFunction_k1 (R : V%) (H : Heap) (I_ : Int → P%) (M_ : Int → M%) (i : Int) (H4 : Heap) (x46 : Bool) (H7 : Heap) : Prop :=
 iteB x46 (
 i% x47 H7 (+%H4 1), (
 iteB (decide (x47 < (4 : Int))) (
 R (.bool false) H7) (
 i% x48 H7 (+%H4 1), (
 iteB (decide (x48 > (40 : Int))) (
 R (.bool false) H7) (
 s% x49 H7 (+%H 10), (
 iteB (decide ((W% (i + (1 : Int))) ≥ (x49.n : Int))) (
 R (.bool false) H7) (
 s% x50 H7 (+%H 10), (
 0 ≤ (W% (i + (1 : Int))) ∧ (W% (i + (1 : Int))) < (x50.n : Int) ∧ (unSome x50.p (fun a1 =>
 ∃ x51 : Int, rd H7 (a1.add ((W% (i + (1 : Int))).toNat * 2)) = some (I%x51) ∧ (
 iteB (x51 != (0 : Int)) (
 R (.bool false) H7) (
 v% i4 (W% (i + (1 : Int))) (
 I_ i4 H7 ∧ M_ i4 H7 < M_ i H4))))))))))))) (
 R (.bool false) H7)
def F_ref18_ValidFunction_r2 (R : V%) (H : Heap) (I_ : Int → P%) (M_ : Int → M%) (i : Int) (H4 : Heap) : Prop :=
 s% x36 H4 (+%H 10), (
 iteB (decide (i < (x36.n : Int))) (
 s% x37 H4 (+%H 10), (
 x% i x37 a ((
 i% x38 H4 (a.add (i.toNat * 2)), i% x39 H4 ((a.add (i.toNat * 2)).add 1), (
 h% H5 (H4.push (.cells #[Z%, Z%] t_api_Bar (0, 0))) (
 okRow H5 &%H4 2 ∧ (
 h% H6 (wrs H5 &%H4 [I%x38, I%x39]) (
 i% x40 H6 &%H4, (
 iteB (x40 == (0 : Int)) (
 i% x41 H6 (+%H4 1), (
 iteB (x41 != (0 : Int)) (
 R (.bool false) H6) (
 v% i1 (W% (i + (1 : Int))) (
 I_ i1 H6 ∧ M_ i1 H6 < M_ i H4)))) (
 iteB (x40 == (1 : Int)) (
 i% x42 H6 (+%H4 1), (
 iteB (decide (x42 < (2 : Int))) (
 R (.bool false) H6) (
 i% x43 H6 (+%H4 1), (
 iteB (decide (x43 > (8 : Int))) (
 R (.bool false) H6) (
 v% i2 (W% (i + (1 : Int))) (
 I_ i2 H6 ∧ M_ i2 H6 < M_ i H4)))))) (
 iteB (x40 == (2 : Int)) (
 i% x44 H6 (+%H4 1), (
 iteB (decide (x44 < (4 : Int))) (
 R (.bool false) H6) (
 i% x45 H6 (+%H4 1), (
 iteB (decide (x45 > (31 : Int))) (
 R (.bool false) H6) (
 v% i3 (W% (i + (1 : Int))) (
 I_ i3 H6 ∧ M_ i3 H6 < M_ i H4)))))) (
 ∃ J_1 : Bool → P%, (
 iteB (x40 == (3 : Int)) (
 J_1 true H6) (
 J_1 (x40 == (4 : Int)) H6)) ∧ (∀ x46 : Bool, ∀ H7 : Heap, J_1 x46 H7 → F_ref18_ValidFunction_k1 R H I_ M_ i H4 x46 H7))))))))))))) (
 R (.bool true) H4))
def F_ref18_ValidFunction_k3 (R : V%) (H H2 : Heap) : Prop :=
 s% x23 H2 (+%H 10), (
 f% x24 x25 x26 x27 x28 x29 x30 x31 x32 x33 x34 H2 &%H, (
 CallsH Tryz.prog n_ref18_Registers #[.agg #[I%x24, I%x25, I%x26, I%x27, .bool x28, .bool x29, .bool x30, I%x31, I%x32, I%x33, S%x34]] H2 (fun v H3 =>
 ∃ x35 : Int, v = I%x35 ∧ (
 Keeps H2 H3 [((+%H 10), 1)] ∧ (
 iteB (decide ((x23.n : Int) > x35)) (
 R (.bool false) H3) (
 ∃ I_ : Int → P%, ∃ M_ : Int → M%, I_ (0 : Int) H3 ∧ (∀ i : Int, ∀ H4 : Heap, I_ i H4 → F_ref18_ValidFunction_r2 R H I_ M_ i H4)))))))
def F_ref18_ValidFunction (R : V%) (f_0 f_1 f_2 f_3 : Int) (f_4 f_5 f_6 : Bool) (f_7 f_8 f_9 : Int) (f_10 : Sl) (H : Heap) : Prop :=
 h% H1 (H.push (.cells #[I%f_0, I%f_1, I%f_2, I%f_3, .bool f_4, .bool f_5, .bool f_6, I%f_7, I%f_8, I%f_9, S%f_10] t_api_Function (0, 0))) (
 i% x H1 (+%H 2), (
 iteB (decide (x < (1 : Int))) (
 R (.bool false) H1) (
 i% x1 H1 (+%H 2), (
 iteB (decide (x1 > (65534 : Int))) (
 R (.bool false) H1) (
 i% x2 H1 (+%H 3), (
 iteB (decide (x2 < (0 : Int))) (
 R (.bool false) H1) (
 i% x3 H1 (+%H 3), (
 iteB (decide (x3 > (65535 : Int))) (
 R (.bool false) H1) (
 i% x4 H1 (+%H 1), (
 iteB (decide (x4 < (0 : Int))) (
 R (.bool false) H1) (
 i% x5 H1 (+%H 1), (
 iteB (decide (x5 > (31 : Int))) (
 R (.bool false) H1) (
 i% x6 H1 (+%H 8), (
 iteB (decide (x6 < (0 : Int))) (
 R (.bool false) H1) (
 i% x7 H1 (+%H 8), (
 iteB (decide (x7 > (4 : Int))) (
 R (.bool false) H1) (
 i% x8 H1 (+%H 7), (
 iteB (decide (x8 < (0 : Int))) (
 R (.bool false) H1) (
 i% x9 H1 (+%H 7), (
 iteB (decide (x9 > (32 : Int))) (
 R (.bool false) H1) (
 ∃ J_ : P%, (
 i% x10 H1 (+%H 9), (
 iteB (decide (x10 < (0 : Int))) (
 R (.bool false) H1) (
 i% x11 H1 (+%H 9), (
 iteB (decide (x11 > (32 : Int))) (
 R (.bool false) H1) (
 i% x12 H1 (+%H 9), (
 i% x13 H1 (+%H 9), (
 iteB ((bitsAnd .i64 x12 (W% (x13 - (1 : Int)))) != (0 : Int)) (
 R (.bool false) H1) (
 i% x14 H1 (+%H 7), (
 iteB (decide (x14 > (0 : Int))) (
 b% x15 H1 (+%H 4), (
 iteB (!x15) (
 R (.bool false) H1) (
 b% x16 H1 (+%H 6), (
 iteB (!x16) (
 R (.bool false) H1) (
 b% x17 H1 (+%H 4), (
 iteB (!x17) (
 b% x18 H1 (+%H 5), (
 iteB x18 (
 R (.bool false) H1) (
 b% x19 H1 (+%H 6), (
 iteB x19 (
 R (.bool false) H1) (
 J_ H1))))) (
 J_ H1))))))) (
 b% x20 H1 (+%H 4), (
 iteB (!x20) (
 b% x21 H1 (+%H 5), (
 iteB x21 (
 R (.bool false) H1) (
 b% x22 H1 (+%H 6), (
 iteB x22 (
 R (.bool false) H1) (
 J_ H1))))) (
 J_ H1)))))))))))) ∧ (∀ H2 : Heap, J_ H2 → F_ref18_ValidFunction_k3 R H H2))))))))))))))))))))))
theorem F_ref18_ValidFunction_ok {R : V%} (f_0 f_1 f_2 f_3 : Int) (f_4 f_5 f_6 : Bool) (f_7 f_8 f_9 : Int) (f_10 : Sl) {H : Heap} (h : F_ref18_ValidFunction R f_0 f_1 f_2 f_3 f_4 f_5 f_6 f_7 f_8 f_9 f_10 H) : CallsH Tryz.prog n_ref18_ValidFunction #[.agg #[I%f_0, I%f_1, I%f_2, I%f_3, .bool f_4, .bool f_5, .bool f_6, I%f_7, I%f_8, I%f_9, S%f_10]] H R := wpF_ok Tryz.func86 (show wpF Tryz.prog Tryz.f86 [(3, I%0), (143, .bool false)] [(5, [], [1]), (24, [143], [1, 3, 4])] [(8, [3], [1])] [9] _ H R = F_ref18_ValidFunction R f_0 f_1 f_2 f_3 f_4 f_5 f_6 f_7 f_8 f_9 f_10 H by kernel_rfl) h
def F_ref18_bar (R : V%) (f_0 f_1 f_2 f_3 : Int) (f_4 f_5 f_6 : Bool) (f_7 f_8 f_9 : Int) (f_10 : Sl) (i : Int) (H : Heap) : Prop :=
 h% H1 (H.push (.cells #[I%f_0, I%f_1, I%f_2, I%f_3, .bool f_4, .bool f_5, .bool f_6, I%f_7, I%f_8, I%f_9, S%f_10] t_api_Function (0, 0))) (
 h% H2 (H1.push (.cells #[Z%, Z%] t_api_Bar (0, 0))) (
 iteB (decide (i < (0 : Int))) (
 okRow H2 &%H1 2 ∧ (
 h% H3 (wrs H2 &%H1 [Z%, Z%]) (
 i% r H3 &%H1, i% r1 H3 (+%H1 1), (
 R (.agg #[I%r, I%r1]) H3)))) (
 s% x H2 (+%H 10), (
 iteB (decide (i ≥ (x.n : Int))) (
 okRow H2 &%H1 2 ∧ (
 h% H4 (wrs H2 &%H1 [Z%, Z%]) (
 i% r2 H4 &%H1, i% r3 H4 (+%H1 1), (
 R (.agg #[I%r2, I%r3]) H4)))) (
 s% x1 H2 (+%H 10), (
 x% i x1 a ((
 i% x2 H2 (a.add (i.toNat * 2)), i% x3 H2 ((a.add (i.toNat * 2)).add 1), (
 okRow H2 &%H1 2 ∧ (
 h% H5 (wrs H2 &%H1 [I%x2, I%x3]) (
 i% r4 H5 &%H1, i% r5 H5 (+%H1 1), (
 R (.agg #[I%r4, I%r5]) H5))))))))))))
theorem F_ref18_bar_ok {R : V%} (f_0 f_1 f_2 f_3 : Int) (f_4 f_5 f_6 : Bool) (f_7 f_8 f_9 : Int) (f_10 : Sl) (i : Int) {H : Heap} (h : F_ref18_bar R f_0 f_1 f_2 f_3 f_4 f_5 f_6 f_7 f_8 f_9 f_10 i H) : CallsH Tryz.prog n_ref18_bar #[.agg #[I%f_0, I%f_1, I%f_2, I%f_3, .bool f_4, .bool f_5, .bool f_6, I%f_7, I%f_8, I%f_9, S%f_10], I%i] H R := wpF_ok Tryz.func87 (show wpF Tryz.prog Tryz.f87 [] [] [] [9] _ H R = F_ref18_bar R f_0 f_1 f_2 f_3 f_4 f_5 f_6 f_7 f_8 f_9 f_10 i H by kernel_rfl) h
def F_ref18_above_r1 (R : V%) (l : Sl) (I_ : Int → P%) (M_ : Int → M%) (i2 : Int) (H1 : Heap) : Prop :=
 iteB (decide (i2 ≥ (0 : Int))) (
 x% i2 l a1 ((
 b% x H1 ((a1.add (i2.toNat * 11)).add 5), (
 iteB (!x) (
 R (.bool false) H1) (
 x% i2 l a2 ((
 i% i3 H1 (a2.add (i2.toNat * 11)), (
 I_ i3 H1 ∧ M_ i3 H1 < M_ i2 H1)))))))) (
 R (.bool true) H1)
def F_ref18_above (R : V%) (l : Sl) (i : Int) (H : Heap) : Prop :=
 x% i l a ((
 i% i1 H (a.add (i.toNat * 11)), (
 ∃ I_ : Int → P%, ∃ M_ : Int → M%, I_ i1 H ∧ (∀ i2 : Int, ∀ H1 : Heap, I_ i2 H1 → F_ref18_above_r1 R l I_ M_ i2 H1))))
theorem F_ref18_above_ok {R : V%} (l : Sl) (i : Int) {H : Heap} (h : F_ref18_above R l i H) : CallsH Tryz.prog n_ref18_above #[S%l, I%i] H R := wpF_ok Tryz.func88 (show wpF Tryz.prog Tryz.f88 [(1, I%0)] [] [(2, [1], [0])] [9] _ H R = F_ref18_above R l i H by kernel_rfl) h
def F_ref18_WindowSize_k1 (hotplug : Bool) (w : Int) (J_2 : Int → P%) (x3 : Bool) (H4 : Heap) : Prop :=
 iteB x3 (
 v% w1 (if (12 : Int) > w then (12 : Int) else w) (
 J_2 w1 H4)) (
 iteB hotplug (
 v% w2 (if (22 : Int) > w then (22 : Int) else w) (
 J_2 w2 H4)) (
 J_2 w H4))
def F_ref18_WindowSize_r2 (R : V%) (sum : Int) (I_1 : Int → P%) (M_1 : Int → M%) (w4 : Int) (H6 : Heap) : Prop :=
 0 ≤ (w% w4) ∧ (
 iteB (decide ((w% ((1 : Int) * 2 ^ (min (w% w4).toNat IntKind.u64.bits))) < sum)) (
 v% w5 (W% (w4 + (1 : Int))) (
 I_1 w5 H6 ∧ M_1 w5 H6 < M_1 w4 H6)) (
 R (.tuple #[I%w4, .bool true]) H6))
def F_ref18_WindowSize_k3 (R : V%) (sum w3 : Int) (H5 : Heap) : Prop :=
 ∃ I_1 : Int → P%, ∃ M_1 : Int → M%, I_1 w3 H5 ∧ (∀ w4 : Int, ∀ H6 : Heap, I_1 w4 H6 → F_ref18_WindowSize_r2 R sum I_1 M_1 w4 H6)
def F_ref18_WindowSize_k4 (R : V%) (classv : Int) (hotplug : Bool) (sum w : Int) (H3 : Heap) : Prop :=
 ∃ J_2 : Int → P%, (
 ∃ J_3 : Bool → P%, (
 iteB hotplug (
 J_3 (classv == (0 : Int)) H3) (
 J_3 false H3)) ∧ (∀ x3 : Bool, ∀ H4 : Heap, J_3 x3 H4 → F_ref18_WindowSize_k1 hotplug w J_2 x3 H4)) ∧ (∀ w3 : Int, ∀ H5 : Heap, J_2 w3 H5 → F_ref18_WindowSize_k3 R sum w3 H5)
def F_ref18_WindowSize_r5 (R : V%) (sizes : Sl) (classv : Int) (hotplug : Bool) (I_ : Int → Int → P%) (M_ : Int → Int → M%) (sum i : Int) (H2 : Heap) : Prop :=
 iteB (decide (i < (sizes.n : Int))) (
 x% i sizes a ((
 i% x H2 (a.add (i.toNat * 1)), (
 iteB (decide (x < (0 : Int))) (
 R (.tuple #[Z%, .bool false]) H2) (
 x% i sizes a1 ((
 i% x1 H2 (a1.add (i.toNat * 1)), (
 iteB (decide (x1 > (44 : Int))) (
 R (.tuple #[Z%, .bool false]) H2) (
 x% i sizes a2 ((
 i% x2 H2 (a2.add (i.toNat * 1)), (
 0 ≤ (w% x2) ∧ (
 v% sum1 (w% (sum + (w% ((1 : Int) * 2 ^ (min (w% x2).toNat IntKind.u64.bits))))) (
 v% i1 (W% (i + (1 : Int))) (
 I_ sum1 i1 H2 ∧ M_ sum1 i1 H2 < M_ sum i H2))))))))))))))) (
 ∃ J_1 : Int → P%, (
 iteB (classv == (0 : Int)) (
 J_1 (12 : Int) H2) (
 J_1 (20 : Int) H2)) ∧ (∀ w : Int, ∀ H3 : Heap, J_1 w H3 → F_ref18_WindowSize_k4 R classv hotplug sum w H3))
def F_ref18_WindowSize_k6 (R : V%) (sizes : Sl) (classv : Int) (hotplug : Bool) (H1 : Heap) : Prop :=
 ∃ I_ : Int → Int → P%, ∃ M_ : Int → Int → M%, I_ (0 : Int) (0 : Int) H1 ∧ (∀ sum i : Int, ∀ H2 : Heap, I_ sum i H2 → F_ref18_WindowSize_r5 R sizes classv hotplug I_ M_ sum i H2)
def F_ref18_WindowSize (R : V%) (sizes : Sl) (classv : Int) (hotplug : Bool) (H : Heap) : Prop :=
 ∃ J_ : P%, (
 iteB (decide (classv < (0 : Int))) (
 R (.tuple #[Z%, .bool false]) H) (
 iteB (decide (classv ≥ (3 : Int))) (
 R (.tuple #[Z%, .bool false]) H) (
 iteB (decide ((sizes.n : Int) > (1024 : Int))) (
 R (.tuple #[Z%, .bool false]) H) (
 iteB ((sizes.n : Int) == (0 : Int)) (
 iteB (!hotplug) (
 R (.tuple #[Z%, .bool false]) H) (
 J_ H)) (
 J_ H))))) ∧ (∀ H1 : Heap, J_ H1 → F_ref18_WindowSize_k6 R sizes classv hotplug H1)
theorem F_ref18_WindowSize_ok {R : V%} (sizes : Sl) (classv : Int) (hotplug : Bool) {H : Heap} (h : F_ref18_WindowSize R sizes classv hotplug H) : CallsH Tryz.prog n_ref18_WindowSize #[S%sizes, I%classv, .bool hotplug] H R := wpF_ok Tryz.func89 (show wpF Tryz.prog Tryz.f89 [(8, U%0), (9, I%0), (10, I%0), (63, .bool false)] [(3, [], [0, 1, 2]), (13, [10], [1, 2, 8]), (17, [10], [8]), (14, [63], [2, 8, 10])] [(5, [8, 9], [0, 1, 2]), (17, [10], [8])] [9] _ H R = F_ref18_WindowSize R sizes classv hotplug H by kernel_rfl) h
def F_allocate_countBlocks_r1 (R : V%) (l : Sl) (k size : Int) (I_ : Int → Int → P%) (M_ : Int → Int → M%) (count x : Int) (H1 : Heap) : Prop :=
 iteB (decide (x < (l.n : Int))) (
 x% x l a ((
 u% x1 H1 (a.add (x.toNat * 2)), u% x2 H1 ((a.add (x.toNat * 2)).add 1), (
 h% H2 (H1.push (.cells #[U%(0 : Int), U%(0 : Int)] t_api_Range (0, 0))) (
 okRow H2 &%H1 2 ∧ (
 h% H3 (wrs H2 &%H1 [U%x1, U%x2]) (
 u% x3 H3 &%H1, (
 0 ≤ k ∧ (
 v% first ((w% ((w% (x3 + size)) - (1 : Int))).fdiv (2 ^ (min k.toNat IntKind.u64.bits))) (
 u% x4 H3 &%H1, (
 u% x5 H3 (+%H1 1), (
 0 ≤ k ∧ (
 v% last ((w% (x4 + x5)).fdiv (2 ^ (min k.toNat IntKind.u64.bits))) (
 iteB (decide (last > first)) (
 v% count1 (w% (count + (w% (last - first)))) (
 I_ count1 (W% (x + (1 : Int))) H3 ∧ M_ count1 (W% (x + (1 : Int))) H3 < M_ count x H1)) (
 I_ count (W% (x + (1 : Int))) H3 ∧ M_ count (W% (x + (1 : Int))) H3 < M_ count x H1))))))))))))))) (
 R (U%count) H1)
def F_allocate_countBlocks (R : V%) (l : Sl) (k : Int) (H : Heap) : Prop :=
 0 ≤ k ∧ (
 v% size (w% ((1 : Int) * 2 ^ (min k.toNat IntKind.u64.bits))) (
 ∃ I_ : Int → Int → P%, ∃ M_ : Int → Int → M%, I_ (0 : Int) (0 : Int) H ∧ (∀ count x : Int, ∀ H1 : Heap, I_ count x H1 → F_allocate_countBlocks_r1 R l k size I_ M_ count x H1)))
theorem F_allocate_countBlocks_ok {R : V%} (l : Sl) (k : Int) {H : Heap} (h : F_allocate_countBlocks R l k H) : CallsH Tryz.prog n_allocate_countBlocks #[S%l, I%k] H R := wpF_ok Tryz.func90 (show wpF Tryz.prog Tryz.f90 [(5, U%0), (15, I%0)] [] [(4, [5, 15], [1, 6, 13, 14])] [9] _ H R = F_allocate_countBlocks R l k H by kernel_rfl) h
def F_allocate_merged_k1 (I_ : Sl → Int → P%) (M_ : Sl → Int → M%) (result : Sl) (x : Int) (H3 : Heap) (k : Int) (x6 : Bool) (H6 : Heap) : Prop :=
 iteB x6 (
 x% k result a3 ((
 u% x7 H6 ((a3.add (k.toNat * 2)).add 1), (
 u% x8 H6 &%H3, (
 u% x9 H6 (+%H3 1), (
 x% k result a4 ((
 u% x10 H6 (a4.add (k.toNat * 2)), (
 x% k result a5 ((
 okRow H6 ((a5.add (k.toNat * 2)).add 1) 1 ∧ (
 h% H7 (wrs H6 ((a5.add (k.toNat * 2)).add 1) [U%(if (w% ((w% (x8 + x9)) - x10)) > x7 then (w% ((w% (x8 + x9)) - x10)) else x7)]) (
 I_ result (W% (x + (1 : Int))) H7 ∧ M_ result (W% (x + (1 : Int))) H7 < M_ result x H3))))))))))))) (
 u% x11 H6 &%H3, u% x12 H6 (+%H3 1), (
 h% H8 (H6.push (.cells #[U%x11, U%x12] t_api_Range (0, 0))) (
 runH Tryz.prog (Builtin.append_ #[t_sl_api_Range, t_sl_api_Range] t_sl_api_Range #[S%result, .slice (some &%H6) 1 1]) H8 (fun v2 H9 =>
 ∃ result1 : Sl, v2 = S%result1 ∧ (
 I_ result1 (W% (x + (1 : Int))) H9 ∧ M_ result1 (W% (x + (1 : Int))) H9 < M_ result x H3)))))
def F_allocate_merged_r2 (R : V%) (sorted : Sl) (I_ : Sl → Int → P%) (M_ : Sl → Int → M%) (result : Sl) (x : Int) (H3 : Heap) : Prop :=
 iteB (decide (x < (sorted.n : Int))) (
 x% x sorted a ((
 u% x1 H3 (a.add (x.toNat * 2)), u% x2 H3 ((a.add (x.toNat * 2)).add 1), (
 h% H4 (H3.push (.cells #[U%(0 : Int), U%(0 : Int)] t_api_Range (0, 0))) (
 okRow H4 &%H3 2 ∧ (
 h% H5 (wrs H4 &%H3 [U%x1, U%x2]) (
 v% k (W% ((result.n : Int) - (1 : Int))) (
 ∃ J_ : Bool → P%, (
 iteB (decide (k ≥ (0 : Int))) (
 u% x3 H5 &%H3, (
 x% k result a1 ((
 u% x4 H5 (a1.add (k.toNat * 2)), (
 x% k result a2 ((
 u% x5 H5 ((a2.add (k.toNat * 2)).add 1), (
 J_ (decide (x3 ≤ (w% (x4 + x5)))) H5)))))))) (
 J_ false H5)) ∧ (∀ x6 : Bool, ∀ H6 : Heap, J_ x6 H6 → F_allocate_merged_k1 I_ M_ result x H3 k x6 H6))))))))) (
 R (S%result) H3)
def F_allocate_merged (R : V%) (l : Sl) (H : Heap) : Prop :=
 CallsH Tryz.prog n_slices_Clone_sl_api_Range_api_Range #[S%l] H (fun v H1 =>
 ∃ sorted : Sl, v = S%sorted ∧ (
 CallsH Tryz.prog n_slices_SortFunc_sl_api_Range_api_Range #[S%sorted, .func (.func 110) #[] #[]] H1 (fun v1 H2 =>
 v1 = .tuple #[] ∧ (
 ∃ I_ : Sl → Int → P%, ∃ M_ : Sl → Int → M%, I_ (Sl.mk none 0 0) (0 : Int) H2 ∧ (∀ result : Sl, ∀ x : Int, ∀ H3 : Heap, I_ result x H3 → F_allocate_merged_r2 R sorted I_ M_ result x H3)))))
theorem F_allocate_merged_ok {R : V%} (l : Sl) {H : Heap} (h : F_allocate_merged R l H) : CallsH Tryz.prog n_allocate_merged #[S%l] H R := wpF_ok Tryz.func91 (show wpF Tryz.prog Tryz.f91 [(4, N%), (14, I%0), (38, .bool false)] [(9, [38], [4, 6, 7, 12, 13, 14])] [(5, [4, 14], [12, 13])] [9] _ H R = F_allocate_merged R l H by kernel_rfl) h
def F_ref21_ValidRanges_r1 (R : V%) (l : Sl) (I_ : Int → P%) (M_ : Int → M%) (i : Int) (H1 : Heap) : Prop :=
 iteB (decide (i < (l.n : Int))) (
 x% i l a ((
 u% x H1 ((a.add (i.toNat * 2)).add 1), (
 iteB (decide (x < (1 : Int))) (
 R (.bool false) H1) (
 x% i l a1 ((
 u% x1 H1 ((a1.add (i.toNat * 2)).add 1), (
 iteB (decide (x1 > (4503599627370496 : Int))) (
 R (.bool false) H1) (
 x% i l a2 ((
 u% x2 H1 (a2.add (i.toNat * 2)), (
 x% i l a3 ((
 u% x3 H1 ((a3.add (i.toNat * 2)).add 1), (
 iteB (decide (x2 > (w% ((4503599627370496 : Int) - x3)))) (
 R (.bool false) H1) (
 v% i1 (W% (i + (1 : Int))) (
 I_ i1 H1 ∧ M_ i1 H1 < M_ i H1))))))))))))))))) (
 R (.bool true) H1)
def F_ref21_ValidRanges (R : V%) (l : Sl) (H : Heap) : Prop :=
 iteB (decide ((l.n : Int) > (1024 : Int))) (
 R (.bool false) H) (
 ∃ I_ : Int → P%, ∃ M_ : Int → M%, I_ (0 : Int) H ∧ (∀ i : Int, ∀ H1 : Heap, I_ i H1 → F_ref21_ValidRanges_r1 R l I_ M_ i H1))
theorem F_ref21_ValidRanges_ok {R : V%} (l : Sl) {H : Heap} (h : F_ref21_ValidRanges R l H) : CallsH Tryz.prog n_ref21_ValidRanges #[S%l] H R := wpF_ok Tryz.func92 (show wpF Tryz.prog Tryz.f92 [(3, I%0)] [] [(4, [3], [0])] [9] _ H R = F_ref21_ValidRanges R l H by kernel_rfl) h
def F_ref21_merge_k1 (I_ : Sl → Sl → P%) (M_ : Sl → Sl → M%) (out left1 : Sl) (H2 H3 : Heap) (left2 : Sl) (n : Int) (x8 : Bool) (H8 : Heap) : Prop :=
 iteB x8 (
 x% n out a5 ((
 u% x9 H8 ((a5.add (n.toNat * 2)).add 1), (
 u% x10 H8 &%H3, (
 u% x11 H8 (+%H3 1), (
 x% n out a6 ((
 u% x12 H8 (a6.add (n.toNat * 2)), (
 x% n out a7 ((
 okRow H8 ((a7.add (n.toNat * 2)).add 1) 1 ∧ (
 h% H9 (wrs H8 ((a7.add (n.toNat * 2)).add 1) [U%(if (w% ((w% (x10 + x11)) - x12)) > x9 then (w% ((w% (x10 + x11)) - x12)) else x9)]) (
 I_ out left2 H9 ∧ M_ out left2 H9 < M_ out left1 H2))))))))))))) (
 u% x13 H8 &%H3, u% x14 H8 (+%H3 1), (
 h% H10 (H8.push (.cells #[U%x13, U%x14] t_api_Range (0, 0))) (
 runH Tryz.prog (Builtin.append_ #[t_sl_api_Range, t_sl_api_Range] t_sl_api_Range #[S%out, .slice (some &%H8) 1 1]) H10 (fun v3 H11 =>
 ∃ out1 : Sl, v3 = S%out1 ∧ (
 I_ out1 left2 H11 ∧ M_ out1 left2 H11 < M_ out left1 H2)))))
def F_ref21_merge_r2 (I_ : Sl → Sl → P%) (M_ : Sl → Sl → M%) (out left1 : Sl) (H2 : Heap) (I_1 : Int → Int → P%) (M_1 : Int → Int → M%) (k i : Int) (H3 : Heap) : Prop :=
 iteB (decide (i < (left1.n : Int))) (
 x% i left1 a ((
 u% x H3 (a.add (i.toNat * 2)), (
 x% k left1 a1 ((
 u% x1 H3 (a1.add (k.toNat * 2)), (
 iteB (decide (x < x1)) (
 v% i1 (W% (i + (1 : Int))) (
 I_1 i i1 H3 ∧ M_1 i i1 H3 < M_1 k i H3)) (
 v% i2 (W% (i + (1 : Int))) (
 I_1 k i2 H3 ∧ M_1 k i2 H3 < M_1 k i H3))))))))) (
 x% k left1 a2 ((
 u% x2 H3 (a2.add (k.toNat * 2)), u% x3 H3 ((a2.add (k.toNat * 2)).add 1), (
 h% H4 (H3.push (.cells #[U%(0 : Int), U%(0 : Int)] t_api_Range (0, 0))) (
 okRow H4 &%H3 2 ∧ (
 h% H5 (wrs H4 &%H3 [U%x2, U%x3]) (
 0 ≤ k ∧ k ≤ (left1.c : Int) ∧ (
 0 ≤ (W% (k + (1 : Int))) ∧ (W% (k + (1 : Int))) ≤ (left1.n : Int) ∧ (
 runH Tryz.prog (Builtin.append_ #[t_sl_api_Range, t_sl_api_Range] t_sl_api_Range #[N%, .slice (slP left1.p left1.c 0 2) (k.toNat - 0) (left1.c - 0)]) H5 (fun v1 H6 =>
 ∃ x4 : Sl, v1 = S%x4 ∧ (
 runH Tryz.prog (Builtin.append_ #[t_sl_api_Range, t_sl_api_Range] t_sl_api_Range #[S%x4, .slice (slP left1.p left1.c ((W% (k + (1 : Int))).toNat) 2) (left1.n - (W% (k + (1 : Int))).toNat) (left1.c - (W% (k + (1 : Int))).toNat)]) H6 (fun v2 H7 =>
 ∃ left2 : Sl, v2 = S%left2 ∧ (
 v% n (W% ((out.n : Int) - (1 : Int))) (
 ∃ J_ : Bool → P%, (
 iteB (decide (n ≥ (0 : Int))) (
 u% x5 H7 &%H3, (
 x% n out a3 ((
 u% x6 H7 (a3.add (n.toNat * 2)), (
 x% n out a4 ((
 u% x7 H7 ((a4.add (n.toNat * 2)).add 1), (
 J_ (decide (x5 ≤ (w% (x6 + x7)))) H7)))))))) (
 J_ false H7)) ∧ (∀ x8 : Bool, ∀ H8 : Heap, J_ x8 H8 → F_ref21_merge_k1 I_ M_ out left1 H2 H3 left2 n x8 H8)))))))))))))))
def F_ref21_merge_r3 (R : V%) (I_ : Sl → Sl → P%) (M_ : Sl → Sl → M%) (out left1 : Sl) (H2 : Heap) : Prop :=
 iteB (decide ((left1.n : Int) > (0 : Int))) (
 ∃ I_1 : Int → Int → P%, ∃ M_1 : Int → Int → M%, I_1 (0 : Int) (1 : Int) H2 ∧ (∀ k i : Int, ∀ H3 : Heap, I_1 k i H3 → F_ref21_merge_r2 I_ M_ out left1 H2 I_1 M_1 k i H3)) (
 R (S%out) H2)
def F_ref21_merge (R : V%) (l : Sl) (H : Heap) : Prop :=
 runH Tryz.prog (Builtin.append_ #[t_sl_api_Range, t_sl_api_Range] t_sl_api_Range #[N%, S%l]) H (fun v H1 =>
 ∃ left : Sl, v = S%left ∧ (
 ∃ I_ : Sl → Sl → P%, ∃ M_ : Sl → Sl → M%, I_ (Sl.mk none 0 0) left H1 ∧ (∀ out left1 : Sl, ∀ H2 : Heap, I_ out left1 H2 → F_ref21_merge_r3 R I_ M_ out left1 H2)))
theorem F_ref21_merge_ok {R : V%} (l : Sl) {H : Heap} (h : F_ref21_merge R l H) : CallsH Tryz.prog n_ref21_merge #[S%l] H R := wpF_ok Tryz.func93 (show wpF Tryz.prog Tryz.f93 [(3, N%), (4, N%), (5, I%0), (6, I%0), (65, .bool false)] [(14, [65], [3, 4, 7, 8])] [(3, [3, 4], []), (6, [5, 6], [3, 4])] [9] _ H R = F_ref21_merge R l H by kernel_rfl) h
def F_ref21_remove_k1 (I_ : Sl → Int → P%) (M_ : Sl → Int → M%) (out : Sl) (i : Int) (H2 : Heap) (endv stop : Int) (out3 : Sl) (H10 : Heap) : Prop :=
 iteB (decide (stop < endv)) (
 h% H11 (H10.push (.cells #[U%stop, U%(w% (endv - stop))] t_api_Range (0, 0))) (
 runH Tryz.prog (Builtin.append_ #[t_sl_api_Range, t_sl_api_Range] t_sl_api_Range #[S%out3, .slice (some &%H10) 1 1]) H11 (fun v2 H12 =>
 ∃ out4 : Sl, v2 = S%out4 ∧ (
 v% i2 (W% (i + (1 : Int))) (
 I_ out4 i2 H12 ∧ M_ out4 i2 H12 < M_ out i H2))))) (
 v% i3 (W% (i + (1 : Int))) (
 I_ out3 i3 H10 ∧ M_ out3 i3 H10 < M_ out i H2))
def F_ref21_remove_k2 (H : Heap) (I_ : Sl → Int → P%) (M_ : Sl → Int → M%) (out : Sl) (i : Int) (H2 : Heap) (endv stop : Int) (x8 : Bool) (H5 : Heap) : Prop :=
 iteB x8 (
 u% x9 H5 &%H2, u% x10 H5 (+%H2 1), (
 h% H6 (H5.push (.cells #[U%x9, U%x10] t_api_Range (0, 0))) (
 runH Tryz.prog (Builtin.append_ #[t_sl_api_Range, t_sl_api_Range] t_sl_api_Range #[S%out, .slice (some &%H5) 1 1]) H6 (fun v H7 =>
 ∃ out1 : Sl, v = S%out1 ∧ (
 v% i1 (W% (i + (1 : Int))) (
 I_ out1 i1 H7 ∧ M_ out1 i1 H7 < M_ out i H2)))))) (
 ∃ J_1 : Sl → P%, (
 u% x11 H5 &%H2, (
 u% x12 H5 &%H, (
 iteB (decide (x11 < x12)) (
 u% x13 H5 &%H2, (
 u% x14 H5 &%H, (
 u% x15 H5 &%H2, (
 h% H8 (H5.push (.cells #[U%x13, U%(w% (x14 - x15))] t_api_Range (0, 0))) (
 runH Tryz.prog (Builtin.append_ #[t_sl_api_Range, t_sl_api_Range] t_sl_api_Range #[S%out, .slice (some &%H5) 1 1]) H8 (fun v1 H9 =>
 ∃ out2 : Sl, v1 = S%out2 ∧ (
 J_1 out2 H9))))))) (
 J_1 out H5)))) ∧ (∀ out3 : Sl, ∀ H10 : Heap, J_1 out3 H10 → F_ref21_remove_k1 I_ M_ out i H2 endv stop out3 H10))
def F_ref21_remove_r3 (R : V%) (H : Heap) (free : Sl) (I_ : Sl → Int → P%) (M_ : Sl → Int → M%) (out : Sl) (i : Int) (H2 : Heap) : Prop :=
 iteB (decide (i < (free.n : Int))) (
 x% i free a ((
 u% x H2 (a.add (i.toNat * 2)), u% x1 H2 ((a.add (i.toNat * 2)).add 1), (
 h% H3 (H2.push (.cells #[U%(0 : Int), U%(0 : Int)] t_api_Range (0, 0))) (
 okRow H3 &%H2 2 ∧ (
 h% H4 (wrs H3 &%H2 [U%x, U%x1]) (
 u% x2 H4 &%H2, (
 u% x3 H4 (+%H2 1), (
 u% x4 H4 &%H, (
 u% x5 H4 (+%H 1), (
 v% endv (w% (x2 + x3)) (
 v% stop (w% (x4 + x5)) (
 ∃ J_ : Bool → P%, (
 u% x6 H4 &%H, (
 iteB (decide (x6 ≥ endv)) (
 J_ true H4) (
 u% x7 H4 &%H2, (
 J_ (decide (stop ≤ x7)) H4)))) ∧ (∀ x8 : Bool, ∀ H5 : Heap, J_ x8 H5 → F_ref21_remove_k2 H I_ M_ out i H2 endv stop x8 H5)))))))))))))) (
 R (S%out) H2)
def F_ref21_remove (R : V%) (free : Sl) (x_0 x_1 : Int) (H : Heap) : Prop :=
 h% H1 (H.push (.cells #[U%x_0, U%x_1] t_api_Range (0, 0))) (
 ∃ I_ : Sl → Int → P%, ∃ M_ : Sl → Int → M%, I_ (Sl.mk none 0 0) (0 : Int) H1 ∧ (∀ out : Sl, ∀ i : Int, ∀ H2 : Heap, I_ out i H2 → F_ref21_remove_r3 R H free I_ M_ out i H2))
theorem F_ref21_remove_ok {R : V%} (free : Sl) (x_0 x_1 : Int) {H : Heap} (h : F_ref21_remove R free x_0 x_1 H) : CallsH Tryz.prog n_ref21_remove #[S%free, .agg #[U%x_0, U%x_1]] H R := wpF_ok Tryz.func94 (show wpF Tryz.prog Tryz.f94 [(5, N%), (6, I%0), (39, .bool false)] [(8, [39], [0, 3, 5, 6, 7, 8, 9]), (11, [5], [0, 3, 6, 8, 9])] [(3, [5, 6], [0, 3])] [9] _ H R = F_ref21_remove R free x_0 x_1 H by kernel_rfl) h
def F_ref21_within_r1 (R : V%) (l : Sl) (fromv to : Int) (I_ : Int → P%) (M_ : Int → M%) (i : Int) (H2 : Heap) : Prop :=
 iteB (decide (i < (l.n : Int))) (
 x% i l a ((
 u% x1 H2 (a.add (i.toNat * 2)), (
 iteB (decide (x1 < fromv)) (
 R (.bool false) H2) (
 x% i l a1 ((
 u% x2 H2 (a1.add (i.toNat * 2)), (
 x% i l a2 ((
 u% x3 H2 ((a2.add (i.toNat * 2)).add 1), (
 iteB (decide ((w% (x2 + x3)) > to)) (
 R (.bool false) H2) (
 v% i1 (W% (i + (1 : Int))) (
 I_ i1 H2 ∧ M_ i1 H2 < M_ i H2))))))))))))) (
 R (.bool true) H2)
def F_ref21_within (R : V%) (l : Sl) (fromv to : Int) (H : Heap) : Prop :=
 iteB (decide ((l.n : Int) > (16 : Int))) (
 R (.bool false) H) (
 CallsH Tryz.prog n_ref21_ValidRanges #[S%l] H (fun v H1 =>
 ∃ x : Bool, v = .bool x ∧ (
 iteB (!x) (
 R (.bool false) H1) (
 ∃ I_ : Int → P%, ∃ M_ : Int → M%, I_ (0 : Int) H1 ∧ (∀ i : Int, ∀ H2 : Heap, I_ i H2 → F_ref21_within_r1 R l fromv to I_ M_ i H2)))))
theorem F_ref21_within_ok {R : V%} (l : Sl) (fromv to : Int) {H : Heap} (h : F_ref21_within R l fromv to H) : CallsH Tryz.prog n_ref21_within #[S%l, U%fromv, U%to] H R := wpF_ok Tryz.func95 (show wpF Tryz.prog Tryz.f95 [(7, I%0)] [] [(4, [7], [0, 1, 2])] [9] _ H R = F_ref21_within R l fromv to H by kernel_rfl) h
def F_ref21_Place_r1 (sizes : Sl) (H4 : Heap) (k : Int) (left2 : Sl) (i : Int) (J_1 : Bool → P%) (I_2 : Bool → Int → P%) (M_2 : Bool → Int → M%) (found : Bool) (j : Int) (H10 : Heap) : Prop :=
 iteB (decide (j < (left2.n : Int))) (
 iteB (!found) (
 x% j left2 a1 ((
 u% x4 H10 (a1.add (j.toNat * 2)), (
 CallsH Tryz.prog n_ref21_up #[U%x4, I%k] H10 (fun v3 H11 =>
 ∃ atv : Int, v3 = U%atv ∧ (
 0 ≤ (w% k) ∧ (
 x% j left2 a2 ((
 u% x5 H11 (a2.add (j.toNat * 2)), (
 x% j left2 a3 ((
 u% x6 H11 ((a3.add (j.toNat * 2)).add 1), (
 iteB (decide ((w% (atv + (w% ((1 : Int) * 2 ^ (min (w% k).toNat IntKind.u64.bits))))) ≤ (w% (x5 + x6)))) (
 0 ≤ i ∧ i < (((sizes.n : Int).toNat : Nat) : Int) ∧ (okRow H11 ((&%H4).add (i.toNat * 1)) 1 ∧ (
 h% H12 (wrs H11 ((&%H4).add (i.toNat * 1)) [U%atv]) (
 v% j1 (W% (j + (1 : Int))) (
 I_2 true j1 H12 ∧ M_2 true j1 H12 < M_2 found j H10))))) (
 v% j2 (W% (j + (1 : Int))) (
 I_2 found j2 H11 ∧ M_2 found j2 H11 < M_2 found j H10))))))))))))))) (
 J_1 found H10)) (
 J_1 found H10)
def F_ref21_Place_k2 (R : V%) (H : Heap) (free sizes : Sl) (H4 : Heap) (k : Int) (I_1 : Sl → Int → P%) (M_1 : Sl → Int → M%) (left2 : Sl) (i : Int) (H9 : Heap) (found1 : Bool) (H13 : Heap) : Prop :=
 iteB (!found1) (
 CallsH Tryz.prog n_ref21_refusal #[S%free, S%sizes] H13 (fun v4 H14 =>
 ∃ x7 x8 : Int, ∃ x9 x10 : Int, v4 = .agg #[I%x7, I%x8, U%x9, U%x10] ∧ (
 okRow H14 &%H 4 ∧ (
 h% H15 (wrs H14 &%H [I%x7, I%x8, U%x9, U%x10]) (
 i% r4 H15 &%H, i% r5 H15 (+%H 1), u% r6 H15 (+%H 2), u% r7 H15 (+%H 3), (
 R (.tuple #[N%, .agg #[I%r4, I%r5, U%r6, U%r7], I%(19 : Int)]) H15)))))) (
 0 ≤ i ∧ i < (((sizes.n : Int).toNat : Nat) : Int) ∧ (u% x11 H13 ((&%H4).add (i.toNat * 1)), (
 0 ≤ (w% k) ∧ (
 CallsH Tryz.prog n_ref21_remove #[S%left2, .agg #[U%x11, U%(w% ((1 : Int) * 2 ^ (min (w% k).toNat IntKind.u64.bits)))]] H13 (fun v5 H16 =>
 ∃ left3 : Sl, v5 = S%left3 ∧ (
 v% i2 (W% (i + (1 : Int))) (
 I_1 left3 i2 H16 ∧ M_1 left3 i2 H16 < M_1 left2 i H9)))))))
def F_ref21_Place_r3 (R : V%) (H : Heap) (free sizes : Sl) (H4 : Heap) (I_ : Sl → Int → P%) (M_ : Sl → Int → M%) (left1 : Sl) (k : Int) (H8 : Heap) (I_1 : Sl → Int → P%) (M_1 : Sl → Int → M%) (left2 : Sl) (i : Int) (H9 : Heap) : Prop :=
 iteB (decide (i < (sizes.n : Int))) (
 x% i sizes a ((
 i% x3 H9 (a.add (i.toNat * 1)), (
 iteB (x3 != k) (
 v% i1 (W% (i + (1 : Int))) (
 I_1 left2 i1 H9 ∧ M_1 left2 i1 H9 < M_1 left2 i H9)) (
 ∃ J_1 : Bool → P%, (
 ∃ I_2 : Bool → Int → P%, ∃ M_2 : Bool → Int → M%, I_2 false (0 : Int) H9 ∧ (∀ found : Bool, ∀ j : Int, ∀ H10 : Heap, I_2 found j H10 → F_ref21_Place_r1 sizes H4 k left2 i J_1 I_2 M_2 found j H10)) ∧ (∀ found1 : Bool, ∀ H13 : Heap, J_1 found1 H13 → F_ref21_Place_k2 R H free sizes H4 k I_1 M_1 left2 i H9 found1 H13)))))) (
 v% k1 (W% (k - (1 : Int))) (
 I_ left2 k1 H9 ∧ M_ left2 k1 H9 < M_ left1 k H8))
def F_ref21_Place_r4 (R : V%) (H : Heap) (free sizes : Sl) (H4 : Heap) (I_ : Sl → Int → P%) (M_ : Sl → Int → M%) (left1 : Sl) (k : Int) (H8 : Heap) : Prop :=
 iteB (decide (k ≥ (0 : Int))) (
 ∃ I_1 : Sl → Int → P%, ∃ M_1 : Sl → Int → M%, I_1 left1 (0 : Int) H8 ∧ (∀ left2 : Sl, ∀ i : Int, ∀ H9 : Heap, I_1 left2 i H9 → F_ref21_Place_r3 R H free sizes H4 I_ M_ left1 k H8 I_1 M_1 left2 i H9)) (
 okRow H8 &%H 4 ∧ (
 h% H17 (wrs H8 &%H [Z%, Z%, U%(0 : Int), U%(0 : Int)]) (
 i% r8 H17 &%H, i% r9 H17 (+%H 1), u% r10 H17 (+%H 2), u% r11 H17 (+%H 3), (
 R (.tuple #[.slice (some &%H4) ((sizes.n : Int).toNat) ((sizes.n : Int).toNat), .agg #[I%r8, I%r9, U%r10, U%r11], Z%]) H17))))
def F_ref21_Place_k5 (R : V%) (H : Heap) (free sizes : Sl) (x2 : Bool) (H4 : Heap) : Prop :=
 iteB x2 (
 okRow H4 &%H 4 ∧ (
 h% H5 (wrs H4 &%H [Z%, Z%, U%(0 : Int), U%(0 : Int)]) (
 i% r H5 &%H, i% r1 H5 (+%H 1), u% r2 H5 (+%H 2), u% r3 H5 (+%H 3), (
 R (.tuple #[N%, .agg #[I%r, I%r1, U%r2, U%r3], I%(1 : Int)]) H5)))) (
 0 ≤ (sizes.n : Int) ∧ (sizes.n : Int) ≤ (sizes.n : Int) ∧ (sizes.n : Int) * ((8 : Nat) : Int) ≤ 281474976710656 ∧ (
 h% H6 (H4.push (.cells (zeroRow (U%(0 : Int)) (sizes.n : Int).toNat) t_uint64 (0, 0))) (
 CallsH Tryz.prog n_ref21_merge #[S%free] H6 (fun v2 H7 =>
 ∃ left : Sl, v2 = S%left ∧ (
 ∃ I_ : Sl → Int → P%, ∃ M_ : Sl → Int → M%, I_ left (44 : Int) H7 ∧ (∀ left1 : Sl, ∀ k : Int, ∀ H8 : Heap, I_ left1 k H8 → F_ref21_Place_r4 R H free sizes H4 I_ M_ left1 k H8))))))
def F_ref21_Place (R : V%) (free sizes : Sl) (H : Heap) : Prop :=
 h% H1 (H.push (.cells #[Z%, Z%, U%(0 : Int), U%(0 : Int)] t_api_Certificate (0, 0))) (
 ∃ J_ : Bool → P%, (
 CallsH Tryz.prog n_ref21_ValidRanges #[S%free] H1 (fun v H2 =>
 ∃ x : Bool, v = .bool x ∧ (
 iteB (!x) (
 J_ true H2) (
 CallsH Tryz.prog n_ref21_items #[S%sizes] H2 (fun v1 H3 =>
 ∃ x1 : Bool, v1 = .bool x1 ∧ (
 J_ (!x1) H3)))))) ∧ (∀ x2 : Bool, ∀ H4 : Heap, J_ x2 H4 → F_ref21_Place_k5 R H free sizes x2 H4))
theorem F_ref21_Place_ok {R : V%} (free sizes : Sl) {H : Heap} (h : F_ref21_Place R free sizes H) : CallsH Tryz.prog n_ref21_Place #[S%free, S%sizes] H R := wpF_ok Tryz.func96 (show wpF Tryz.prog Tryz.f96 [(8, N%), (9, I%0), (10, I%0), (11, .bool false), (12, I%0), (21, .bool false)] [(2, [21], [0, 1, 5]), (19, [11], [0, 1, 5, 7, 8, 9, 10])] [(6, [8, 9], [0, 1, 5, 7]), (9, [8, 10], [0, 1, 5, 7, 9]), (14, [11, 12], [0, 1, 5, 7, 8, 9, 10])] [9] _ H R = F_ref21_Place R free sizes H by kernel_rfl) h

end Go.Proofs.YtnhhncjflnlfaaaGreat
