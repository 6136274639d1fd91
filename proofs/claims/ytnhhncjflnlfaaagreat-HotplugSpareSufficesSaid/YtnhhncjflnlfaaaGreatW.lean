/-
  The shallow readings of this seat's functions, written by a program (gen.py); the kernel holds each against the loaded program.
-/
import Derived.Test.YtnhhncjflnlfaaaGreatProg
import Derived.Test.YtnhhncjflnlfaaaGreatW2
namespace Go.Proofs.YtnhhncjflnlfaaaGreat
open Go.Eng
set_option linter.unusedVariables false
local notation:max "S%" x:max => Value.slice (Sl.p x) (Sl.n x) (Sl.c x)
local notation:max "I%" x:max => Value.int IntKind.i64 x
local notation:max "U%" x:max => Value.int IntKind.u64 x
local notation:max "Z%" => Value.int IntKind.i64 (0 : Int)
local notation:max "N%" => Value.slice none 0 0
local notation:max "&%" x:max => (Addr.mk (Array.size x) 0 none : Addr)
local notation:max "+%" x:max n:max => Addr.add (Addr.mk (Array.size x) 0 none) n
local notation:max "V%" => Value → Heap → Prop
local notation:max "P%" => Heap → Prop
local notation:max "M%" => Heap → Nat
local notation:max "W%" => IntKind.wrap IntKind.i64
local notation:max "w%" => IntKind.wrap IntKind.u64
local macro "i% " x:ident h:term:max a:term:max ", " b:term : term => `(∃ $x:ident : Int, rd $h $a = some (Value.int IntKind.i64 $x) ∧ $b)
local macro "u% " x:ident h:term:max a:term:max ", " b:term : term => `(∃ $x:ident : Int, rd $h $a = some (Value.int IntKind.u64 $x) ∧ $b)
local macro "s% " x:ident h:term:max a:term:max ", " b:term : term => `(∃ $x:ident : Sl, rd $h $a = some (Value.slice (Sl.p $x) (Sl.n $x) (Sl.c $x)) ∧ $b)
local macro "b% " x:ident h:term:max a:term:max ", " b:term : term => `(∃ $x:ident : Bool, rd $h $a = some (Value.bool $x) ∧ $b)
local macro "h% " x:ident v:term:max b:term:max : term => `(letH $v (fun $x : Heap => $b))
local macro "v% " x:ident v:term:max b:term:max : term => `(letV $v (fun $x : Int => $b))
local macro "x% " i:ident s:ident a:ident b:term:max : term => `(0 ≤ $i ∧ $i < (Sl.n $s : Int) ∧ (unSome (Sl.p $s) (fun $a => $b)))
local macro "j% " x0:ident x1:ident x2:ident x3:ident x4:ident x5:ident x6:ident x7:ident h:ident a:term:max ", " b:term : term => `(i% $x0 $h $a, s% $x1 $h (Addr.add $a 1), s% $x2 $h (Addr.add $a 2), s% $x3 $h (Addr.add $a 3), s% $x4 $h (Addr.add $a 4), s% $x5 $h (Addr.add $a 5), s% $x6 $h (Addr.add $a 6), s% $x7 $h (Addr.add $a 7), $b)
local macro "f% " x0:ident x1:ident x2:ident x3:ident x4:ident x5:ident x6:ident x7:ident x8:ident x9:ident x10:ident h:ident a:term:max ", " b:term : term => `(i% $x0 $h $a, i% $x1 $h (Addr.add $a 1), i% $x2 $h (Addr.add $a 2), i% $x3 $h (Addr.add $a 3), b% $x4 $h (Addr.add $a 4), b% $x5 $h (Addr.add $a 5), b% $x6 $h (Addr.add $a 6), i% $x7 $h (Addr.add $a 7), i% $x8 $h (Addr.add $a 8), i% $x9 $h (Addr.add $a 9), s% $x10 $h (Addr.add $a 10), $b)
local macro "a% " x0:ident x1:ident x2:ident x3:ident x4:ident h:ident a:term:max ", " b:term : term => `(i% $x0 $h $a, i% $x1 $h (Addr.add $a 1), i% $x2 $h (Addr.add $a 2), i% $x3 $h (Addr.add $a 3), u% $x4 $h (Addr.add $a 4), $b)
local macro "g% " x0:ident x1:ident x2:ident x3:ident x4:ident x5:ident x6:ident x7:ident : term => `(Value.agg #[I% $x0, S% $x1, S% $x2, S% $x3, S% $x4, S% $x5, S% $x6, S% $x7])

def F_resources_classOf (R : V%) (l : Sl) (high : Bool) (function kind : Int) (H : Heap) : Prop :=
 iteB (kind == (1 : Int)) (
 R (Z%) H) (
 iteB (kind == (4 : Int)) (
 iteB high (
 CallsH Tryz.prog n_resources_prefAbove #[S%l, I%function] H (fun v H1 =>
 ∃ x : Bool, v = .bool x ∧ (
 iteB x (
 R (I%(2 : Int)) H1) (
 R (I%(1 : Int)) H1)))) (
 R (I%(1 : Int)) H)) (
 R (I%(1 : Int)) H))
theorem F_resources_classOf_ok {R : V%} (l : Sl) (high : Bool) (function kind : Int) {H : Heap} (h : F_resources_classOf R l high function kind H) : CallsH Tryz.prog n_resources_classOf #[S%l, .bool high, I%function, I%kind] H R := wpF_ok Tryz.func97 (show wpF Tryz.prog Tryz.f97 [] [] [] [9] _ H R = F_resources_classOf R l high function kind H by kernel_rfl) h
def F_resources_prefAbove_r1 (R : V%) (l : Sl) (I_ : Int → P%) (M_ : Int → M%) (i1 : Int) (H1 : Heap) : Prop :=
 iteB (decide (i1 ≥ (0 : Int))) (
 x% i1 l a1 ((
 b% x H1 ((a1.add (i1.toNat * 11)).add 5), (
 iteB (!x) (
 R (.bool false) H1) (
 x% i1 l a2 ((
 i% i2 H1 (a2.add (i1.toNat * 11)), (
 I_ i2 H1 ∧ M_ i2 H1 < M_ i1 H1)))))))) (
 R (.bool true) H1)
def F_resources_prefAbove (R : V%) (l : Sl) (function : Int) (H : Heap) : Prop :=
 x% function l a ((
 i% i H (a.add (function.toNat * 11)), (
 ∃ I_ : Int → P%, ∃ M_ : Int → M%, I_ i H ∧ (∀ i1 : Int, ∀ H1 : Heap, I_ i1 H1 → F_resources_prefAbove_r1 R l I_ M_ i1 H1))))
theorem F_resources_prefAbove_ok {R : V%} (l : Sl) (function : Int) {H : Heap} (h : F_resources_prefAbove R l function H) : CallsH Tryz.prog n_resources_prefAbove #[S%l, I%function] H R := wpF_ok Tryz.func98 (show wpF Tryz.prog Tryz.f98 [(5, I%0)] [] [(2, [5], [0])] [9] _ H R = F_resources_prefAbove R l function H by kernel_rfl) h
def F_resources_WindowSize_k1 (R : V%) (sum smallest2 : Int) (H4 : Heap) : Prop :=
 iteB (decide (sum > (0 : Int))) (
 CallsH Tryz.prog n_math_bits_Len64 #[U%(w% (sum - (1 : Int)))] H4 (fun v H5 =>
 ∃ x1 : Int, v = I%x1 ∧ (
 v% smallest3 (if x1 > smallest2 then x1 else smallest2) (
 R (.tuple #[I%smallest3, .bool true]) H5)))) (
 R (.tuple #[I%smallest2, .bool true]) H4)
def F_resources_WindowSize_k2 (R : V%) (hotplug : Bool) (sum smallest spare : Int) (H3 : Heap) : Prop :=
 ∃ J_2 : Int → P%, (
 iteB hotplug (
 v% smallest1 (if spare > smallest then spare else smallest) (
 J_2 smallest1 H3)) (
 J_2 smallest H3)) ∧ (∀ smallest2 : Int, ∀ H4 : Heap, J_2 smallest2 H4 → F_resources_WindowSize_k1 R sum smallest2 H4)
def F_resources_WindowSize_r3 (R : V%) (sizes : Sl) (classv : Int) (hotplug : Bool) (I_ : Int → Int → P%) (M_ : Int → Int → M%) (sum x : Int) (H2 : Heap) : Prop :=
 iteB (decide (x < (sizes.n : Int))) (
 x% x sizes a ((
 i% size H2 (a.add (x.toNat * 1)), (
 iteB (decide (size < (0 : Int))) (
 R (.tuple #[Z%, .bool false]) H2) (
 iteB (decide (size > (44 : Int))) (
 R (.tuple #[Z%, .bool false]) H2) (
 0 ≤ size ∧ (
 v% sum1 (w% (sum + (w% ((1 : Int) * 2 ^ (min size.toNat IntKind.u64.bits))))) (
 I_ sum1 (W% (x + (1 : Int))) H2 ∧ M_ sum1 (W% (x + (1 : Int))) H2 < M_ sum x H2)))))))) (
 ∃ J_1 : Int → Int → P%, (
 iteB (classv == (0 : Int)) (
 J_1 (12 : Int) (12 : Int) H2) (
 J_1 (20 : Int) (22 : Int) H2)) ∧ (∀ smallest spare : Int, ∀ H3 : Heap, J_1 smallest spare H3 → F_resources_WindowSize_k2 R hotplug sum smallest spare H3))
def F_resources_WindowSize_k4 (R : V%) (sizes : Sl) (classv : Int) (hotplug : Bool) (H1 : Heap) : Prop :=
 ∃ I_ : Int → Int → P%, ∃ M_ : Int → Int → M%, I_ (0 : Int) (0 : Int) H1 ∧ (∀ sum x : Int, ∀ H2 : Heap, I_ sum x H2 → F_resources_WindowSize_r3 R sizes classv hotplug I_ M_ sum x H2)
def F_resources_WindowSize (R : V%) (sizes : Sl) (classv : Int) (hotplug : Bool) (H : Heap) : Prop :=
 ∃ J_ : P%, (
 iteB ((sizes.n : Int) == (0 : Int)) (
 iteB (!hotplug) (
 R (.tuple #[Z%, .bool false]) H) (
 iteB (decide ((sizes.n : Int) > (1024 : Int))) (
 R (.tuple #[Z%, .bool false]) H) (
 iteB (decide (classv < (0 : Int))) (
 R (.tuple #[Z%, .bool false]) H) (
 iteB (decide (classv ≥ (3 : Int))) (
 R (.tuple #[Z%, .bool false]) H) (
 J_ H))))) (
 iteB (decide ((sizes.n : Int) > (1024 : Int))) (
 R (.tuple #[Z%, .bool false]) H) (
 iteB (decide (classv < (0 : Int))) (
 R (.tuple #[Z%, .bool false]) H) (
 iteB (decide (classv ≥ (3 : Int))) (
 R (.tuple #[Z%, .bool false]) H) (
 J_ H))))) ∧ (∀ H1 : Heap, J_ H1 → F_resources_WindowSize_k4 R sizes classv hotplug H1)
theorem F_resources_WindowSize_ok {R : V%} (sizes : Sl) (classv : Int) (hotplug : Bool) {H : Heap} (h : F_resources_WindowSize R sizes classv hotplug H) : CallsH Tryz.prog n_resources_WindowSize #[S%sizes, I%classv, .bool hotplug] H R := wpF_ok Tryz.func99 (show wpF Tryz.prog Tryz.f99 [(8, U%0), (11, I%0), (12, I%0), (35, I%0)] [(3, [], [0, 1, 2]), (14, [11, 12], [2, 8]), (16, [11], [8])] [(5, [8, 35], [1, 2, 33, 34])] [9] _ H R = F_resources_WindowSize R sizes classv hotplug H by kernel_rfl) h
def F_slices_IndexFunc_sl_api_Need_api_Need_r1 (R : V%) (s : Sl) (c0 : Addr) (c1 : Addr) (I_ : Int → P%) (M_ : Int → M%) (x : Int) (H1 : Heap) : Prop :=
 iteB (decide (x < (s.n : Int))) (
 x% x s a ((
 i% x1 H1 (a.add (x.toNat * 4)), i% x2 H1 ((a.add (x.toNat * 4)).add 1), i% x3 H1 ((a.add (x.toNat * 4)).add 2), i% x4 H1 ((a.add (x.toNat * 4)).add 3), (
 CallsH Tryz.prog n_hotplug_extension_find_1 #[.agg #[I%x1, I%x2, I%x3, I%x4], .pointer (some c0), .pointer (some c1)] H1 (fun v H2 =>
 ∃ x5 : Bool, v = .bool x5 ∧ (
 iteB x5 (
 R (I%x) H2) (
 I_ (W% (x + (1 : Int))) H2 ∧ M_ (W% (x + (1 : Int))) H2 < M_ x H1))))))) (
 R (I%(-1 : Int)) H1)
def F_slices_IndexFunc_sl_api_Need_api_Need (R : V%) (s : Sl) (c0 : Addr) (c1 : Addr) (H : Heap) : Prop :=
 ∃ I_ : Int → P%, ∃ M_ : Int → M%, I_ (0 : Int) H ∧ (∀ x : Int, ∀ H1 : Heap, I_ x H1 → F_slices_IndexFunc_sl_api_Need_api_Need_r1 R s c0 c1 I_ M_ x H1)
theorem F_slices_IndexFunc_sl_api_Need_api_Need_ok {R : V%} (s : Sl) (c0 : Addr) (c1 : Addr) {H : Heap} (h : F_slices_IndexFunc_sl_api_Need_api_Need R s c0 c1 H) : CallsH Tryz.prog n_slices_IndexFunc_sl_api_Need_api_Need #[S%s, .func (.func 101) #[] #[.pointer (some c0), .pointer (some c1)]] H R := wpF_ok Tryz.func100 (show wpF Tryz.prog Tryz.f100 [(8, I%0)] [] [(2, [8], [0, 1, 7])] [9] _ H R = F_slices_IndexFunc_sl_api_Need_api_Need R s c0 c1 H by kernel_rfl) h
def F_hotplug_extension_find_1 (R : V%) (d_0 d_1 d_2 d_3 : Int) (cap0 : Addr) (cap1 : Addr) (H : Heap) : Prop :=
 h% H1 (H.push (.cells #[I%d_0, I%d_1, I%d_2, I%d_3] t_api_Need (0, 0))) (
 i% x H1 &%H, (
 i% x1 H1 cap0, (
 iteB (x == x1) (
 i% x2 H1 (+%H 1), (
 i% x3 H1 cap1, (
 R (.bool (x2 == x3)) H1))) (
 R (.bool false) H1))))
theorem F_hotplug_extension_find_1_ok {R : V%} (d_0 d_1 d_2 d_3 : Int) (cap0 : Addr) (cap1 : Addr) {H : Heap} (h : F_hotplug_extension_find_1 R d_0 d_1 d_2 d_3 cap0 cap1 H) : CallsH Tryz.prog n_hotplug_extension_find_1 #[.agg #[I%d_0, I%d_1, I%d_2, I%d_3], .pointer (some cap0), .pointer (some cap1)] H R := wpF_ok Tryz.func101 (show wpF Tryz.prog Tryz.f101 [] [] [] [9] _ H R = F_hotplug_extension_find_1 R d_0 d_1 d_2 d_3 cap0 cap1 H by kernel_rfl) h
def F_hotplug_extension_span (R : V%) (x : Addr) (i : Int) (H : Heap) : Prop :=
 h% H1 (H.push (.cells #[U%(0 : Int), U%(0 : Int)] t_api_Range (0, 0))) (
 s% x1 H1 (x.add 3), (
 x% i x1 a ((
 u% x2 H1 (a.add (i.toNat * 1)), (
 s% x3 H1 (x.add 2), (
 x% i x3 a1 ((
 i% x4 H1 ((a1.add (i.toNat * 4)).add 3), (
 0 ≤ (w% x4) ∧ (
 okRow H1 &%H 2 ∧ (
 h% H2 (wrs H1 &%H [U%x2, U%(w% ((1 : Int) * 2 ^ (min (w% x4).toNat IntKind.u64.bits)))]) (
 u% r H2 &%H, u% r1 H2 (+%H 1), (
 R (.agg #[U%r, U%r1]) H2)))))))))))))
theorem F_hotplug_extension_span_ok {R : V%} (x : Addr) (i : Int) {H : Heap} (h : F_hotplug_extension_span R x i H) : CallsH Tryz.prog n_hotplug_extension_span #[.pointer (some x), I%i] H R := wpF_ok Tryz.func102 (show wpF Tryz.prog Tryz.f102 [] [] [] [9] _ H R = F_hotplug_extension_span R x i H by kernel_rfl) h
def F_allocate_Place_r1 (R : V%) (H : Heap) (free : Sl) (H1 H3 : Heap) (x2 : Sl) (H9 : Heap) (x4 : Sl) (I_1 : Sl → Int → P%) (M_1 : Sl → Int → M%) (left1 : Sl) (x5 : Int) (H11 : Heap) : Prop :=
 iteB (decide (x5 < (((x2.n : Int).toNat : Nat) : Int))) (
 0 ≤ x5 ∧ x5 < (((x2.n : Int).toNat : Nat) : Int) ∧ (i% item H11 ((&%H3).add (x5.toNat * 1)), (
 s% x6 H11 &%H, (
 x% item x6 a ((
 i% x7 H11 (a.add (item.toNat * 1)), (
 CallsH Tryz.prog n_allocate_take #[S%left1, I%x7] H11 (fun v3 H12 =>
 ∃ x8 : Int, ∃ x9 : Sl, ∃ x10 : Bool, v3 = .tuple #[U%x8, S%x9, .bool x10] ∧ (
 iteB (!x10) (
 s% x11 H12 &%H, (
 CallsH Tryz.prog n_allocate_merged #[S%free] H12 (fun v4 H13 =>
 ∃ x12 : Sl, v4 = S%x12 ∧ (
 Keeps H12 H13 [(&%H, 1)] ∧ (
 CallsH Tryz.prog n_allocate_certificate #[S%x12, S%x11] H13 (fun v5 H14 =>
 ∃ x13 x14 : Int, ∃ x15 x16 : Int, v5 = .agg #[I%x13, I%x14, U%x15, U%x16] ∧ (
 okRow H14 &%H1 4 ∧ (
 h% H15 (wrs H14 &%H1 [I%x13, I%x14, U%x15, U%x16]) (
 i% r4 H15 &%H1, i% r5 H15 (+%H1 1), u% r6 H15 (+%H1 2), u% r7 H15 (+%H1 3), (
 R (.tuple #[N%, .agg #[I%r4, I%r5, U%r6, U%r7], I%(19 : Int)]) H15)))))))))) (
 0 ≤ item ∧ item < (((x4.n : Int).toNat : Nat) : Int) ∧ (okRow H12 ((&%H9).add (item.toNat * 1)) 1 ∧ (
 h% H16 (wrs H12 ((&%H9).add (item.toNat * 1)) [U%x8]) (
 I_1 x9 (W% (x5 + (1 : Int))) H16 ∧ M_1 x9 (W% (x5 + (1 : Int))) H16 < M_1 left1 x5 H11))))))))))))) (
 okRow H11 &%H1 4 ∧ (
 h% H17 (wrs H11 &%H1 [Z%, Z%, U%(0 : Int), U%(0 : Int)]) (
 i% r8 H17 &%H1, i% r9 H17 (+%H1 1), u% r10 H17 (+%H1 2), u% r11 H17 (+%H1 3), (
 R (.tuple #[.slice (some &%H9) ((x4.n : Int).toNat) ((x4.n : Int).toNat), .agg #[I%r8, I%r9, U%r10, U%r11], Z%]) H17))))
def F_allocate_Place_r2 (R : V%) (H : Heap) (free : Sl) (H1 H3 : Heap) (x2 : Sl) (I_ : Int → P%) (M_ : Int → M%) (x3 : Int) (H6 : Heap) : Prop :=
 iteB (decide (x3 < (((x2.n : Int).toNat : Nat) : Int))) (
 0 ≤ x3 ∧ x3 < (((x2.n : Int).toNat : Nat) : Int) ∧ (okRow H6 ((&%H3).add (x3.toNat * 1)) 1 ∧ (
 h% H7 (wrs H6 ((&%H3).add (x3.toNat * 1)) [I%x3]) (
 I_ (W% (x3 + (1 : Int))) H7 ∧ M_ (W% (x3 + (1 : Int))) H7 < M_ x3 H6)))) (
 CallsH Tryz.prog n_slices_SortStableFunc_sl_int_int #[.slice (some &%H3) ((x2.n : Int).toNat) ((x2.n : Int).toNat), .func (.func 117) #[] #[.pointer (some &%H)]] H6 (fun v1 H8 =>
 v1 = .tuple #[] ∧ (
 CallsH Tryz.prog n_allocate_merged #[S%free] H8 (fun v2 H9 =>
 ∃ left : Sl, v2 = S%left ∧ (
 s% x4 H9 &%H, (
 0 ≤ (x4.n : Int) ∧ (x4.n : Int) ≤ (x4.n : Int) ∧ (x4.n : Int) * ((8 : Nat) : Int) ≤ 281474976710656 ∧ (
 h% H10 (H9.push (.cells (zeroRow (U%(0 : Int)) (x4.n : Int).toNat) t_uint64 (0, 0))) (
 ∃ I_1 : Sl → Int → P%, ∃ M_1 : Sl → Int → M%, I_1 left (0 : Int) H10 ∧ (∀ left1 : Sl, ∀ x5 : Int, ∀ H11 : Heap, I_1 left1 x5 H11 → F_allocate_Place_r1 R H free H1 H3 x2 H9 x4 I_1 M_1 left1 x5 H11)))))))))
def F_allocate_Place (R : V%) (free sizes : Sl) (H : Heap) : Prop :=
 h% H1 (H.push (.cells #[S%sizes] t_sl_int (0, 0))) (
 h% H2 (H1.push (.cells #[Z%, Z%, U%(0 : Int), U%(0 : Int)] t_api_Certificate (0, 0))) (
 s% x H2 &%H, (
 CallsH Tryz.prog n_allocate_placeable #[S%free, S%x] H2 (fun v H3 =>
 ∃ x1 : Bool, v = .bool x1 ∧ (
 iteB (!x1) (
 okRow H3 &%H1 4 ∧ (
 h% H4 (wrs H3 &%H1 [Z%, Z%, U%(0 : Int), U%(0 : Int)]) (
 i% r H4 &%H1, i% r1 H4 (+%H1 1), u% r2 H4 (+%H1 2), u% r3 H4 (+%H1 3), (
 R (.tuple #[N%, .agg #[I%r, I%r1, U%r2, U%r3], I%(1 : Int)]) H4)))) (
 s% x2 H3 &%H, (
 0 ≤ (x2.n : Int) ∧ (x2.n : Int) ≤ (x2.n : Int) ∧ (x2.n : Int) * ((8 : Nat) : Int) ≤ 281474976710656 ∧ (
 h% H5 (H3.push (.cells (zeroRow (Z%) (x2.n : Int).toNat) t_int (0, 0))) (
 ∃ I_ : Int → P%, ∃ M_ : Int → M%, I_ (0 : Int) H5 ∧ (∀ x3 : Int, ∀ H6 : Heap, I_ x3 H6 → F_allocate_Place_r2 R H free H1 H3 x2 I_ M_ x3 H6))))))))))
theorem F_allocate_Place_ok {R : V%} (free sizes : Sl) {H : Heap} (h : F_allocate_Place R free sizes H) : CallsH Tryz.prog n_allocate_Place #[S%free, S%sizes] H R := wpF_ok Tryz.func103 (show wpF Tryz.prog Tryz.f103 [(9, N%), (26, I%0), (44, I%0)] [] [(5, [26], [0, 3, 5, 7, 25]), (13, [9, 44], [0, 3, 5, 10, 42, 43])] [9] _ H R = F_allocate_Place R free sizes H by kernel_rfl) h
def F_pciconf_registers (R : V%) (bridge : Bool) (H : Heap) : Prop :=
 iteB bridge (
 R (I%(2 : Int)) H) (
 R (I%(6 : Int)) H)
theorem F_pciconf_registers_ok {R : V%} (bridge : Bool) {H : Heap} (h : F_pciconf_registers R bridge H) : CallsH Tryz.prog n_pciconf_registers #[.bool bridge] H R := wpF_ok Tryz.func105 (show wpF Tryz.prog Tryz.f105 [] [] [] [9] _ H R = F_pciconf_registers R bridge H by kernel_rfl) h
def F_pciconf_validBar_k1 (R : V%) (l : Sl) (i size : Int) (x1 : Bool) (H1 : Heap) : Prop :=
 iteB x1 (
 iteB (decide (size ≥ (4 : Int))) (
 iteB (decide (size ≤ (40 : Int))) (
 iteB (decide ((W% (i + (1 : Int))) < (l.n : Int))) (
 0 ≤ (W% (i + (1 : Int))) ∧ (W% (i + (1 : Int))) < (l.n : Int) ∧ (unSome l.p (fun a2 =>
 ∃ x2 : Int, rd H1 (a2.add ((W% (i + (1 : Int))).toNat * 2)) = some (I%x2) ∧ (
 R (.bool (x2 == (0 : Int))) H1)))) (
 R (.bool false) H1)) (
 R (.bool false) H1)) (
 R (.bool false) H1)) (
 R (.bool false) H1)
def F_pciconf_validBar (R : V%) (l : Sl) (i : Int) (H : Heap) : Prop :=
 x% i l a ((
 i% size H ((a.add (i.toNat * 2)).add 1), (
 x% i l a1 ((
 i% x H (a1.add (i.toNat * 2)), (
 iteB (x == (0 : Int)) (
 R (.bool (size == (0 : Int))) H) (
 iteB (x == (1 : Int)) (
 iteB (decide (size ≥ (2 : Int))) (
 R (.bool (decide (size ≤ (8 : Int)))) H) (
 R (.bool false) H)) (
 iteB (x == (2 : Int)) (
 iteB (decide (size ≥ (4 : Int))) (
 R (.bool (decide (size ≤ (31 : Int)))) H) (
 R (.bool false) H)) (
 ∃ J_ : Bool → P%, (
 iteB (x == (3 : Int)) (
 J_ true H) (
 J_ (x == (4 : Int)) H)) ∧ (∀ x1 : Bool, ∀ H1 : Heap, J_ x1 H1 → F_pciconf_validBar_k1 R l i size x1 H1))))))))))
theorem F_pciconf_validBar_ok {R : V%} (l : Sl) (i : Int) {H : Heap} (h : F_pciconf_validBar R l i H) : CallsH Tryz.prog n_pciconf_validBar #[S%l, I%i] H R := wpF_ok Tryz.func106 (show wpF Tryz.prog Tryz.f106 [(36, .bool false)] [(11, [36], [0, 1, 5])] [] [9] _ H R = F_pciconf_validBar R l i H by kernel_rfl) h
def F_ref18_Registers (R : V%) (f_0 f_1 f_2 f_3 : Int) (f_4 f_5 f_6 : Bool) (f_7 f_8 f_9 : Int) (f_10 : Sl) (H : Heap) : Prop :=
 h% H1 (H.push (.cells #[I%f_0, I%f_1, I%f_2, I%f_3, .bool f_4, .bool f_5, .bool f_6, I%f_7, I%f_8, I%f_9, S%f_10] t_api_Function (0, 0))) (
 b% x H1 (+%H 4), (
 iteB x (
 R (I%(2 : Int)) H1) (
 R (I%(6 : Int)) H1)))
theorem F_ref18_Registers_ok {R : V%} (f_0 f_1 f_2 f_3 : Int) (f_4 f_5 f_6 : Bool) (f_7 f_8 f_9 : Int) (f_10 : Sl) {H : Heap} (h : F_ref18_Registers R f_0 f_1 f_2 f_3 f_4 f_5 f_6 f_7 f_8 f_9 f_10 H) : CallsH Tryz.prog n_ref18_Registers #[.agg #[I%f_0, I%f_1, I%f_2, I%f_3, .bool f_4, .bool f_5, .bool f_6, I%f_7, I%f_8, I%f_9, S%f_10]] H R := wpF_ok Tryz.func107 (show wpF Tryz.prog Tryz.f107 [] [] [] [9] _ H R = F_ref18_Registers R f_0 f_1 f_2 f_3 f_4 f_5 f_6 f_7 f_8 f_9 f_10 H by kernel_rfl) h
def F_slices_Clone_sl_api_Range_api_Range (R : V%) (s : Sl) (H : Heap) : Prop :=
 iteB s.p.isNone (
 R (N%) H) (
 h% H1 (H.push (.cells #[] t_api_Range (0, 0))) (
 runH Tryz.prog (Builtin.append_ #[t_sl_api_Range, t_sl_api_Range] t_sl_api_Range #[.slice (some &%H) 0 0, S%s]) H1 (fun v H2 =>
 ∃ x : Sl, v = S%x ∧ (
 R (S%x) H2))))
theorem F_slices_Clone_sl_api_Range_api_Range_ok {R : V%} (s : Sl) {H : Heap} (h : F_slices_Clone_sl_api_Range_api_Range R s H) : CallsH Tryz.prog n_slices_Clone_sl_api_Range_api_Range #[S%s] H R := wpF_ok Tryz.func108 (show wpF Tryz.prog Tryz.f108 [] [] [] [9] _ H R = F_slices_Clone_sl_api_Range_api_Range R s H by kernel_rfl) h
def F_ref21_items_r1 (R : V%) (sizes : Sl) (I_ : Int → P%) (M_ : Int → M%) (i : Int) (H1 : Heap) : Prop :=
 iteB (decide (i < (sizes.n : Int))) (
 x% i sizes a ((
 i% x H1 (a.add (i.toNat * 1)), (
 iteB (decide (x < (0 : Int))) (
 R (.bool false) H1) (
 x% i sizes a1 ((
 i% x1 H1 (a1.add (i.toNat * 1)), (
 iteB (decide (x1 > (44 : Int))) (
 R (.bool false) H1) (
 v% i1 (W% (i + (1 : Int))) (
 I_ i1 H1 ∧ M_ i1 H1 < M_ i H1)))))))))) (
 R (.bool true) H1)
def F_ref21_items (R : V%) (sizes : Sl) (H : Heap) : Prop :=
 iteB (decide ((sizes.n : Int) > (1024 : Int))) (
 R (.bool false) H) (
 ∃ I_ : Int → P%, ∃ M_ : Int → M%, I_ (0 : Int) H ∧ (∀ i : Int, ∀ H1 : Heap, I_ i H1 → F_ref21_items_r1 R sizes I_ M_ i H1))
theorem F_ref21_items_ok {R : V%} (sizes : Sl) {H : Heap} (h : F_ref21_items R sizes H) : CallsH Tryz.prog n_ref21_items #[S%sizes] H R := wpF_ok Tryz.func112 (show wpF Tryz.prog Tryz.f112 [(3, I%0)] [] [(4, [3], [0])] [9] _ H R = F_ref21_items R sizes H by kernel_rfl) h
def F_ref21_up (R : V%) (a k : Int) (H : Heap) : Prop :=
 0 ≤ (w% k) ∧ (
 0 ≤ (w% k) ∧ (
 0 ≤ (w% k) ∧ (
 v% x (w% (((w% ((w% (a + (w% ((1 : Int) * 2 ^ (min (w% k).toNat IntKind.u64.bits))))) - (1 : Int))).fdiv (2 ^ (min (w% k).toNat IntKind.u64.bits))) * 2 ^ (min (w% k).toNat IntKind.u64.bits))) (
 R (U%x) H))))
theorem F_ref21_up_ok {R : V%} (a k : Int) {H : Heap} (h : F_ref21_up R a k H) : CallsH Tryz.prog n_ref21_up #[U%a, I%k] H R := wpF_ok Tryz.func113 (show wpF Tryz.prog Tryz.f113 [] [] [] [9] _ H R = F_ref21_up R a k H by kernel_rfl) h
def F_ref21_refusal_r1 (R : V%) (H : Heap) (free sizes : Sl) (I_ : Int → P%) (M_ : Int → M%) (k : Int) (H2 : Heap) : Prop :=
 iteB (decide (k ≥ (0 : Int))) (
 CallsH Tryz.prog n_ref21_demand #[S%sizes, I%k] H2 (fun v H3 =>
 ∃ n : Int, v = U%n ∧ (
 CallsH Tryz.prog n_ref21_Blocks #[S%free, I%k] H3 (fun v1 H4 =>
 ∃ b : Int, v1 = U%b ∧ (
 0 ≤ (w% k) ∧ (
 iteB (decide (n > (w% (b * 2 ^ (min (w% k).toNat IntKind.u64.bits))))) (
 okRow H4 &%H 4 ∧ (
 h% H5 (wrs H4 &%H [Z%, I%k, U%n, U%b]) (
 i% r H5 &%H, i% r1 H5 (+%H 1), u% r2 H5 (+%H 2), u% r3 H5 (+%H 3), (
 R (.agg #[I%r, I%r1, U%r2, U%r3]) H5)))) (
 v% k1 (W% (k - (1 : Int))) (
 I_ k1 H4 ∧ M_ k1 H4 < M_ k H2)))))))) (
 okRow H2 &%H 4 ∧ (
 h% H6 (wrs H2 &%H [Z%, Z%, U%(0 : Int), U%(0 : Int)]) (
 i% r4 H6 &%H, i% r5 H6 (+%H 1), u% r6 H6 (+%H 2), u% r7 H6 (+%H 3), (
 R (.agg #[I%r4, I%r5, U%r6, U%r7]) H6))))
def F_ref21_refusal (R : V%) (free sizes : Sl) (H : Heap) : Prop :=
 h% H1 (H.push (.cells #[Z%, Z%, U%(0 : Int), U%(0 : Int)] t_api_Certificate (0, 0))) (
 ∃ I_ : Int → P%, ∃ M_ : Int → M%, I_ (44 : Int) H1 ∧ (∀ k : Int, ∀ H2 : Heap, I_ k H2 → F_ref21_refusal_r1 R H free sizes I_ M_ k H2))
theorem F_ref21_refusal_ok {R : V%} (free sizes : Sl) {H : Heap} (h : F_ref21_refusal R free sizes H) : CallsH Tryz.prog n_ref21_refusal #[S%free, S%sizes] H R := wpF_ok Tryz.func114 (show wpF Tryz.prog Tryz.f114 [(5, I%0)] [] [(2, [5], [0, 1, 4])] [9] _ H R = F_ref21_refusal R free sizes H by kernel_rfl) h
def F_math_bits_Len64_k1 (R : V%) (x6 n4 : Int) (H3 : Heap) : Prop :=
 0 ≤ (IntKind.u8.wrap x6) ∧ (IntKind.u8.wrap x6) < (cstr_0.size : Int) ∧ (
 v% n5 (W% (n4 + (W% (cstr_0[(IntKind.u8.wrap x6).toNat]!.toNat : Int)))) (
 R (I%n5) H3))
def F_math_bits_Len64_k2 (R : V%) (x4 n2 : Int) (H2 : Heap) : Prop :=
 ∃ J_2 : Int → Int → P%, (
 iteB (decide (x4 ≥ (256 : Int))) (
 0 ≤ (8 : Int) ∧ (
 v% x5 (x4.fdiv (2 ^ (min (8 : Int).toNat IntKind.u64.bits))) (
 v% n3 (W% (n2 + (8 : Int))) (
 J_2 x5 n3 H2)))) (
 J_2 x4 n2 H2)) ∧ (∀ x6 n4 : Int, ∀ H3 : Heap, J_2 x6 n4 H3 → F_math_bits_Len64_k1 R x6 n4 H3)
def F_math_bits_Len64_k3 (R : V%) (x2 n : Int) (H1 : Heap) : Prop :=
 ∃ J_1 : Int → Int → P%, (
 iteB (decide (x2 ≥ (65536 : Int))) (
 0 ≤ (16 : Int) ∧ (
 v% x3 (x2.fdiv (2 ^ (min (16 : Int).toNat IntKind.u64.bits))) (
 v% n1 (W% (n + (16 : Int))) (
 J_1 x3 n1 H1)))) (
 J_1 x2 n H1)) ∧ (∀ x4 n2 : Int, ∀ H2 : Heap, J_1 x4 n2 H2 → F_math_bits_Len64_k2 R x4 n2 H2)
def F_math_bits_Len64 (R : V%) (x : Int) (H : Heap) : Prop :=
 ∃ J_ : Int → Int → P%, (
 iteB (decide (x ≥ (4294967296 : Int))) (
 0 ≤ (32 : Int) ∧ (
 v% x1 (x.fdiv (2 ^ (min (32 : Int).toNat IntKind.u64.bits))) (
 J_ x1 (32 : Int) H))) (
 J_ x (0 : Int) H)) ∧ (∀ x2 n : Int, ∀ H1 : Heap, J_ x2 n H1 → F_math_bits_Len64_k3 R x2 n H1)
theorem F_math_bits_Len64_ok {R : V%} (x : Int) {H : Heap} (h : F_math_bits_Len64 R x H) : CallsH Tryz.prog n_math_bits_Len64 #[U%x] H R := wpF_ok Tryz.func115 (show wpF Tryz.prog Tryz.f115 [(0, U%0), (2, I%0)] [(4, [0, 2], []), (7, [0, 2], []), (10, [0, 2], [])] [] [9] _ H R = F_math_bits_Len64 R x H by kernel_rfl) h
def F_slices_SortStableFunc_sl_int_int (R : V%) (x : Sl) (cap : Addr) (H : Heap) : Prop :=
 CallsH Tryz.prog n_slices_stableCmpFunc_int #[S%x, I%(x.n : Int), .func (.func 117) #[] #[.pointer (some cap)]] H (fun v H1 =>
 v = .tuple #[] ∧ (
 R (.tuple #[]) H1))
theorem F_slices_SortStableFunc_sl_int_int_ok {R : V%} (x : Sl) (cap : Addr) {H : Heap} (h : F_slices_SortStableFunc_sl_int_int R x cap H) : CallsH Tryz.prog n_slices_SortStableFunc_sl_int_int #[S%x, .func (.func 117) #[] #[.pointer (some cap)]] H R := wpF_ok Tryz.func116 (show wpF Tryz.prog Tryz.f116 [] [] [] [9] _ H R = F_slices_SortStableFunc_sl_int_int R x cap H by kernel_rfl) h
def F_allocate_Place_1 (R : V%) (a b : Int) (cap0 : Addr) (H : Heap) : Prop :=
 s% x H cap0, (
 x% b x a1 ((
 i% x1 H (a1.add (b.toNat * 1)), (
 s% x2 H cap0, (
 x% a x2 a2 ((
 i% x3 H (a2.add (a.toNat * 1)), (
 CallsH Tryz.prog n_cmp_Compare_int #[I%x1, I%x3] H (fun v H1 =>
 ∃ x4 : Int, v = I%x4 ∧ (
 R (I%x4) H1))))))))))
theorem F_allocate_Place_1_ok {R : V%} (a b : Int) (cap0 : Addr) {H : Heap} (h : F_allocate_Place_1 R a b cap0 H) : CallsH Tryz.prog n_allocate_Place_1 #[I%a, I%b, .pointer (some cap0)] H R := wpF_ok Tryz.func117 (show wpF Tryz.prog Tryz.f117 [] [] [] [9] _ H R = F_allocate_Place_1 R a b cap0 H by kernel_rfl) h
def F_cmp_Compare_int (R : V%) (x y : Int) (H : Heap) : Prop :=
 CallsH Tryz.prog n_cmp_isNaN_int #[I%x] H (fun v H1 =>
 ∃ xNaN : Bool, v = .bool xNaN ∧ (
 CallsH Tryz.prog n_cmp_isNaN_int #[I%y] H1 (fun v1 H2 =>
 ∃ yNaN : Bool, v1 = .bool yNaN ∧ (
 iteB xNaN (
 iteB yNaN (
 R (Z%) H2) (
 R (I%(-1 : Int)) H2)) (
 iteB yNaN (
 R (I%(1 : Int)) H2) (
 iteB (decide (x < y)) (
 R (I%(-1 : Int)) H2) (
 iteB (decide (x > y)) (
 R (I%(1 : Int)) H2) (
 R (Z%) H2))))))))
theorem F_cmp_Compare_int_ok {R : V%} (x y : Int) {H : Heap} (h : F_cmp_Compare_int R x y H) : CallsH Tryz.prog n_cmp_Compare_int #[I%x, I%y] H R := wpF_ok Tryz.func118 (show wpF Tryz.prog Tryz.f118 [] [] [] [9] _ H R = F_cmp_Compare_int R x y H by kernel_rfl) h
def F_allocate_take_k1 (R : V%) (l : Sl) (x base : Int) (parts3 : Sl) (H9 : Heap) : Prop :=
 CallsH Tryz.prog n_slices_Replace_sl_api_Range_api_Range #[S%l, I%x, I%(W% (x + (1 : Int))), S%parts3] H9 (fun v2 H10 =>
 ∃ x9 : Sl, v2 = S%x9 ∧ (
 R (.tuple #[U%base, S%x9, .bool true]) H10))
def F_allocate_take_k2 (R : V%) (l : Sl) (size x base endv : Int) (parts1 : Sl) (H6 : Heap) : Prop :=
 ∃ J_1 : Sl → P%, (
 iteB (decide ((w% (base + size)) < endv)) (
 h% H7 (H6.push (.cells #[U%(w% (base + size)), U%(w% ((w% (endv - base)) - size))] t_api_Range (0, 0))) (
 runH Tryz.prog (Builtin.append_ #[t_sl_api_Range, t_sl_api_Range] t_sl_api_Range #[S%parts1, .slice (some &%H6) 1 1]) H7 (fun v1 H8 =>
 ∃ parts2 : Sl, v1 = S%parts2 ∧ (
 J_1 parts2 H8)))) (
 J_1 parts1 H6)) ∧ (∀ parts3 : Sl, ∀ H9 : Heap, J_1 parts3 H9 → F_allocate_take_k1 R l x base parts3 H9)
def F_allocate_take_r3 (R : V%) (l : Sl) (k size : Int) (I_ : Int → P%) (M_ : Int → M%) (x : Int) (H1 : Heap) : Prop :=
 iteB (decide (x < (l.n : Int))) (
 x% x l a ((
 u% x1 H1 (a.add (x.toNat * 2)), u% x2 H1 ((a.add (x.toNat * 2)).add 1), (
 h% H2 (H1.push (.cells #[U%(0 : Int), U%(0 : Int)] t_api_Range (0, 0))) (
 okRow H2 &%H1 2 ∧ (
 h% H3 (wrs H2 &%H1 [U%x1, U%x2]) (
 u% x3 H3 &%H1, (
 0 ≤ k ∧ (
 0 ≤ k ∧ (
 v% base (w% (((w% ((w% (x3 + size)) - (1 : Int))).fdiv (2 ^ (min k.toNat IntKind.u64.bits))) * 2 ^ (min k.toNat IntKind.u64.bits))) (
 u% x4 H3 &%H1, (
 u% x5 H3 (+%H1 1), (
 v% endv (w% (x4 + x5)) (
 iteB (decide (base ≥ endv)) (
 I_ (W% (x + (1 : Int))) H3 ∧ M_ (W% (x + (1 : Int))) H3 < M_ x H1) (
 iteB (decide ((w% (endv - base)) < size)) (
 I_ (W% (x + (1 : Int))) H3 ∧ M_ (W% (x + (1 : Int))) H3 < M_ x H1) (
 ∃ J_ : Sl → P%, (
 u% x6 H3 &%H1, (
 iteB (decide (base > x6)) (
 u% x7 H3 &%H1, (
 u% x8 H3 &%H1, (
 h% H4 (H3.push (.cells #[U%x7, U%(w% (base - x8))] t_api_Range (0, 0))) (
 runH Tryz.prog (Builtin.append_ #[t_sl_api_Range, t_sl_api_Range] t_sl_api_Range #[N%, .slice (some &%H3) 1 1]) H4 (fun v H5 =>
 ∃ parts : Sl, v = S%parts ∧ (
 J_ parts H5)))))) (
 J_ (Sl.mk none 0 0) H3))) ∧ (∀ parts1 : Sl, ∀ H6 : Heap, J_ parts1 H6 → F_allocate_take_k2 R l size x base endv parts1 H6))))))))))))))))) (
 R (.tuple #[U%(0 : Int), S%l, .bool false]) H1)
def F_allocate_take (R : V%) (l : Sl) (k : Int) (H : Heap) : Prop :=
 0 ≤ k ∧ (
 v% size (w% ((1 : Int) * 2 ^ (min k.toNat IntKind.u64.bits))) (
 ∃ I_ : Int → P%, ∃ M_ : Int → M%, I_ (0 : Int) H ∧ (∀ x : Int, ∀ H1 : Heap, I_ x H1 → F_allocate_take_r3 R l k size I_ M_ x H1)))
theorem F_allocate_take_ok {R : V%} (l : Sl) (k : Int) {H : Heap} (h : F_allocate_take R l k H) : CallsH Tryz.prog n_allocate_take #[S%l, I%k] H R := wpF_ok Tryz.func119 (show wpF Tryz.prog Tryz.f119 [(12, N%), (17, I%0)] [(11, [12], [0, 7, 8, 10, 11]), (13, [12], [0, 8, 10])] [(3, [17], [0, 1, 7, 15, 16])] [9] _ H R = F_allocate_take R l k H by kernel_rfl) h
def F_allocate_certificate_r1 (R : V%) (H : Heap) (l sizes : Sl) (I_ : Int → P%) (M_ : Int → M%) (k : Int) (H2 : Heap) : Prop :=
 iteB (decide (k ≥ (0 : Int))) (
 CallsH Tryz.prog n_allocate_demand #[S%sizes, I%k] H2 (fun v H3 =>
 ∃ need : Int, v = U%need ∧ (
 CallsH Tryz.prog n_allocate_countBlocks #[S%l, I%k] H3 (fun v1 H4 =>
 ∃ blocks : Int, v1 = U%blocks ∧ (
 0 ≤ k ∧ (
 iteB (decide (need > (w% (blocks * 2 ^ (min k.toNat IntKind.u64.bits))))) (
 okRow H4 &%H 4 ∧ (
 h% H5 (wrs H4 &%H [Z%, I%k, U%need, U%blocks]) (
 i% r H5 &%H, i% r1 H5 (+%H 1), u% r2 H5 (+%H 2), u% r3 H5 (+%H 3), (
 R (.agg #[I%r, I%r1, U%r2, U%r3]) H5)))) (
 v% k1 (W% (k - (1 : Int))) (
 I_ k1 H4 ∧ M_ k1 H4 < M_ k H2)))))))) (
 okRow H2 &%H 4 ∧ (
 h% H6 (wrs H2 &%H [Z%, Z%, U%(0 : Int), U%(0 : Int)]) (
 i% r4 H6 &%H, i% r5 H6 (+%H 1), u% r6 H6 (+%H 2), u% r7 H6 (+%H 3), (
 R (.agg #[I%r4, I%r5, U%r6, U%r7]) H6))))
def F_allocate_certificate (R : V%) (l sizes : Sl) (H : Heap) : Prop :=
 h% H1 (H.push (.cells #[Z%, Z%, U%(0 : Int), U%(0 : Int)] t_api_Certificate (0, 0))) (
 ∃ I_ : Int → P%, ∃ M_ : Int → M%, I_ (52 : Int) H1 ∧ (∀ k : Int, ∀ H2 : Heap, I_ k H2 → F_allocate_certificate_r1 R H l sizes I_ M_ k H2))
theorem F_allocate_certificate_ok {R : V%} (l sizes : Sl) {H : Heap} (h : F_allocate_certificate R l sizes H) : CallsH Tryz.prog n_allocate_certificate #[S%l, S%sizes] H R := wpF_ok Tryz.func120 (show wpF Tryz.prog Tryz.f120 [(5, I%0)] [] [(2, [5], [0, 1, 4])] [9] _ H R = F_allocate_certificate R l sizes H by kernel_rfl) h
def F_ref21_demand_r1 (R : V%) (sizes : Sl) (k : Int) (I_ : Int → Int → P%) (M_ : Int → Int → M%) (n i : Int) (H1 : Heap) : Prop :=
 iteB (decide (i < (sizes.n : Int))) (
 x% i sizes a ((
 i% x H1 (a.add (i.toNat * 1)), (
 iteB (decide (x ≥ k)) (
 x% i sizes a1 ((
 i% x1 H1 (a1.add (i.toNat * 1)), (
 0 ≤ (w% x1) ∧ (
 v% n1 (w% (n + (w% ((1 : Int) * 2 ^ (min (w% x1).toNat IntKind.u64.bits))))) (
 v% i1 (W% (i + (1 : Int))) (
 I_ n1 i1 H1 ∧ M_ n1 i1 H1 < M_ n i H1))))))) (
 v% i2 (W% (i + (1 : Int))) (
 I_ n i2 H1 ∧ M_ n i2 H1 < M_ n i H1)))))) (
 R (U%n) H1)
def F_ref21_demand (R : V%) (sizes : Sl) (k : Int) (H : Heap) : Prop :=
 ∃ I_ : Int → Int → P%, ∃ M_ : Int → Int → M%, I_ (0 : Int) (0 : Int) H ∧ (∀ n i : Int, ∀ H1 : Heap, I_ n i H1 → F_ref21_demand_r1 R sizes k I_ M_ n i H1)
theorem F_ref21_demand_ok {R : V%} (sizes : Sl) (k : Int) {H : Heap} (h : F_ref21_demand R sizes k H) : CallsH Tryz.prog n_ref21_demand #[S%sizes, I%k] H R := wpF_ok Tryz.func124 (show wpF Tryz.prog Tryz.f124 [(5, U%0), (6, I%0)] [] [(3, [5, 6], [0, 1])] [9] _ H R = F_ref21_demand R sizes k H by kernel_rfl) h
def F_ref21_Blocks_r1 (R : V%) (k : Int) (l : Sl) (I_ : Int → Int → P%) (M_ : Int → Int → M%) (n i : Int) (H3 : Heap) : Prop :=
 iteB (decide (i < (l.n : Int))) (
 x% i l a ((
 u% x1 H3 (a.add (i.toNat * 2)), (
 x% i l a1 ((
 u% x2 H3 (a1.add (i.toNat * 2)), (
 x% i l a2 ((
 u% x3 H3 ((a2.add (i.toNat * 2)).add 1), (
 CallsH Tryz.prog n_ref21_up #[U%x1, I%k] H3 (fun v2 H4 =>
 ∃ atv : Int, v2 = U%atv ∧ (
 Keeps H3 H4 [((a1.add (i.toNat * 2)), 1), (((a2.add (i.toNat * 2)).add 1), 1)] ∧ (
 v% endv (w% (x2 + x3)) (
 iteB (decide (atv < endv)) (
 0 ≤ (w% k) ∧ (
 v% n1 (w% (n + ((w% (endv - atv)).fdiv (2 ^ (min (w% k).toNat IntKind.u64.bits))))) (
 v% i1 (W% (i + (1 : Int))) (
 I_ n1 i1 H4 ∧ M_ n1 i1 H4 < M_ n i H3)))) (
 v% i2 (W% (i + (1 : Int))) (
 I_ n i2 H4 ∧ M_ n i2 H4 < M_ n i H3)))))))))))))))) (
 R (U%n) H3)
def F_ref21_Blocks (R : V%) (free : Sl) (k : Int) (H : Heap) : Prop :=
 iteB (decide (k < (0 : Int))) (
 R (U%(0 : Int)) H) (
 iteB (decide (k > (52 : Int))) (
 R (U%(0 : Int)) H) (
 CallsH Tryz.prog n_ref21_ValidRanges #[S%free] H (fun v H1 =>
 ∃ x : Bool, v = .bool x ∧ (
 iteB (!x) (
 R (U%(0 : Int)) H1) (
 CallsH Tryz.prog n_ref21_merge #[S%free] H1 (fun v1 H2 =>
 ∃ l : Sl, v1 = S%l ∧ (
 ∃ I_ : Int → Int → P%, ∃ M_ : Int → Int → M%, I_ (0 : Int) (0 : Int) H2 ∧ (∀ n i : Int, ∀ H3 : Heap, I_ n i H3 → F_ref21_Blocks_r1 R k l I_ M_ n i H3))))))))
theorem F_ref21_Blocks_ok {R : V%} (free : Sl) (k : Int) {H : Heap} (h : F_ref21_Blocks R free k H) : CallsH Tryz.prog n_ref21_Blocks #[S%free, I%k] H R := wpF_ok Tryz.func125 (show wpF Tryz.prog Tryz.f125 [(5, U%0), (7, I%0)] [] [(6, [5, 7], [1, 6])] [9] _ H R = F_ref21_Blocks R free k H by kernel_rfl) h
def F_slices_stableCmpFunc_int_r1 (data : Sl) (n : Int) (cap : Addr) (I_1 : Int → P%) (M_1 : Int → M%) (blockSize : Int) (H4 : Heap) (I_2 : Int → Int → P%) (M_2 : Int → Int → M%) (a1 b3 : Int) (H5 : Heap) : Prop :=
 iteB (decide (b3 ≤ n)) (
 CallsH Tryz.prog n_slices_symMergeCmpFunc_int #[S%data, I%a1, I%(W% (a1 + blockSize)), I%b3, .func (.func 117) #[] #[.pointer (some cap)]] H5 (fun v2 H6 =>
 v2 = .tuple #[] ∧ (
 v% b4 (W% (b3 + (W% ((2 : Int) * blockSize)))) (
 I_2 b3 b4 H6 ∧ M_2 b3 b4 H6 < M_2 a1 b3 H5)))) (
 v% m (W% (a1 + blockSize)) (
 iteB (decide (m < n)) (
 CallsH Tryz.prog n_slices_symMergeCmpFunc_int #[S%data, I%a1, I%m, I%n, .func (.func 117) #[] #[.pointer (some cap)]] H5 (fun v3 H7 =>
 v3 = .tuple #[] ∧ (
 v% blockSize1 (W% (blockSize * (2 : Int))) (
 I_1 blockSize1 H7 ∧ M_1 blockSize1 H7 < M_1 blockSize H4)))) (
 v% blockSize2 (W% (blockSize * (2 : Int))) (
 I_1 blockSize2 H5 ∧ M_1 blockSize2 H5 < M_1 blockSize H4))))
def F_slices_stableCmpFunc_int_r2 (R : V%) (data : Sl) (n : Int) (cap : Addr) (I_1 : Int → P%) (M_1 : Int → M%) (blockSize : Int) (H4 : Heap) : Prop :=
 iteB (decide (blockSize < n)) (
 v% b2 (W% ((2 : Int) * blockSize)) (
 ∃ I_2 : Int → Int → P%, ∃ M_2 : Int → Int → M%, I_2 (0 : Int) b2 H4 ∧ (∀ a1 b3 : Int, ∀ H5 : Heap, I_2 a1 b3 H5 → F_slices_stableCmpFunc_int_r1 data n cap I_1 M_1 blockSize H4 I_2 M_2 a1 b3 H5))) (
 R (.tuple #[]) H4)
def F_slices_stableCmpFunc_int_r3 (R : V%) (data : Sl) (n : Int) (cap : Addr) (I_ : Int → Int → P%) (M_ : Int → Int → M%) (a b : Int) (H1 : Heap) : Prop :=
 iteB (decide (b ≤ n)) (
 CallsH Tryz.prog n_slices_insertionSortCmpFunc_int #[S%data, I%a, I%b, .func (.func 117) #[] #[.pointer (some cap)]] H1 (fun v H2 =>
 v = .tuple #[] ∧ (
 v% b1 (W% (b + (20 : Int))) (
 I_ b b1 H2 ∧ M_ b b1 H2 < M_ a b H1)))) (
 CallsH Tryz.prog n_slices_insertionSortCmpFunc_int #[S%data, I%a, I%n, .func (.func 117) #[] #[.pointer (some cap)]] H1 (fun v1 H3 =>
 v1 = .tuple #[] ∧ (
 ∃ I_1 : Int → P%, ∃ M_1 : Int → M%, I_1 (20 : Int) H3 ∧ (∀ blockSize : Int, ∀ H4 : Heap, I_1 blockSize H4 → F_slices_stableCmpFunc_int_r2 R data n cap I_1 M_1 blockSize H4))))
def F_slices_stableCmpFunc_int (R : V%) (data : Sl) (n : Int) (cap : Addr) (H : Heap) : Prop :=
 ∃ I_ : Int → Int → P%, ∃ M_ : Int → Int → M%, I_ (0 : Int) (20 : Int) H ∧ (∀ a b : Int, ∀ H1 : Heap, I_ a b H1 → F_slices_stableCmpFunc_int_r3 R data n cap I_ M_ a b H1)
theorem F_slices_stableCmpFunc_int_ok {R : V%} (data : Sl) (n : Int) (cap : Addr) {H : Heap} (h : F_slices_stableCmpFunc_int R data n cap H) : CallsH Tryz.prog n_slices_stableCmpFunc_int #[S%data, I%n, .func (.func 117) #[] #[.pointer (some cap)]] H R := wpF_ok Tryz.func126 (show wpF Tryz.prog Tryz.f126 [(6, I%0), (7, I%0), (8, I%0)] [] [(2, [7, 8], [0, 1, 2, 6]), (7, [6], [0, 1, 2]), (9, [7, 8], [0, 1, 2, 6])] [9] _ H R = F_slices_stableCmpFunc_int R data n cap H by kernel_rfl) h
def F_cmp_isNaN_int (R : V%) (x : Int) (H : Heap) : Prop :=
 R (.bool (x != x)) H
theorem F_cmp_isNaN_int_ok {R : V%} (x : Int) {H : Heap} (h : F_cmp_isNaN_int R x H) : CallsH Tryz.prog n_cmp_isNaN_int #[I%x] H R := wpF_ok Tryz.func127 (show wpF Tryz.prog Tryz.f127 [] [] [] [9] _ H R = F_cmp_isNaN_int R x H by kernel_rfl) h
def F_slices_Replace_sl_api_Range_api_Range (R : V%) (s : Sl) (i j : Int) (v : Sl) (H : Heap) : Prop :=
 0 ≤ j ∧ j ≤ (s.c : Int) ∧ (
 0 ≤ i ∧ i ≤ (j.toNat : Int) ∧ (
 iteB (i == j) (
 CallsH Tryz.prog n_slices_Insert_sl_api_Range_api_Range #[S%s, I%i, S%v] H (fun v1 H1 =>
 ∃ x : Sl, v1 = S%x ∧ (
 R (S%x) H1))) (
 iteB (j == (s.n : Int)) (
 0 ≤ i ∧ i ≤ (s.c : Int) ∧ (
 runH Tryz.prog (Builtin.append_ #[t_sl_api_Range, t_sl_api_Range] t_sl_api_Range #[.slice (slP s.p s.c 0 2) (i.toNat - 0) (s.c - 0), S%v]) H (fun v2 H2 =>
 ∃ s2 : Sl, v2 = S%s2 ∧ (
 iteB (decide ((s2.n : Int) < (s.n : Int))) (
 0 ≤ (s2.n : Int) ∧ (s2.n : Int) ≤ (s.n : Int) ∧ (
 runH Tryz.prog (Builtin.clear_ #[t_sl_api_Range] 0 #[.slice (slP s.p s.c ((s2.n : Int).toNat) 2) (s.n - (s2.n : Int).toNat) (s.c - (s2.n : Int).toNat)]) H2 (fun v3 H3 =>
 v3 = .tuple #[] ∧ (
 R (S%s2) H3)))) (
 R (S%s2) H2))))) (
 0 ≤ i ∧ i ≤ (s.c : Int) ∧ (
 0 ≤ j ∧ j ≤ (s.n : Int) ∧ (
 v% tot (W% ((W% ((((i.toNat - 0) : Nat) : Int) + (v.n : Int))) + (((s.n - j.toNat) : Nat) : Int))) (
 iteB (decide (tot > (s.c : Int))) (
 0 ≤ i ∧ i ≤ (s.c : Int) ∧ (
 runH Tryz.prog (Builtin.append_ #[t_sl_api_Range, t_int] t_sl_api_Range #[.slice (slP s.p s.c 0 2) (i.toNat - 0) (s.c - 0), I%(W% (tot - i))]) H (fun v4 H4 =>
 ∃ s21 : Sl, v4 = S%s21 ∧ (
 0 ≤ i ∧ i ≤ (s21.n : Int) ∧ (
 runH Tryz.prog (Builtin.copy_ #[t_sl_api_Range, t_sl_api_Range] t_int #[.slice (slP s21.p s21.c i.toNat 2) (s21.n - i.toNat) (s21.c - i.toNat), S%v]) H4 (fun v5 H5 =>
 ∃ x1 : Int, v5 = I%x1 ∧ (
 0 ≤ (W% (i + (v.n : Int))) ∧ (W% (i + (v.n : Int))) ≤ (s21.n : Int) ∧ (
 0 ≤ j ∧ j ≤ (s.n : Int) ∧ (
 runH Tryz.prog (Builtin.copy_ #[t_sl_api_Range, t_sl_api_Range] t_int #[.slice (slP s21.p s21.c ((W% (i + (v.n : Int))).toNat) 2) (s21.n - (W% (i + (v.n : Int))).toNat) (s21.c - (W% (i + (v.n : Int))).toNat), .slice (slP s.p s.c j.toNat 2) (s.n - j.toNat) (s.c - j.toNat)]) H5 (fun v6 H6 =>
 ∃ x2 : Int, v6 = I%x2 ∧ (
 R (S%s21) H6))))))))))) (
 0 ≤ tot ∧ tot ≤ (s.c : Int) ∧ (
 iteB (decide ((W% (i + (v.n : Int))) ≤ j)) (
 0 ≤ i ∧ i ≤ (((tot.toNat - 0) : Nat) : Int) ∧ (
 runH Tryz.prog (Builtin.copy_ #[t_sl_api_Range, t_sl_api_Range] t_int #[.slice (slP (slP s.p s.c 0 2) (s.c - 0) i.toNat 2) ((tot.toNat - 0) - i.toNat) ((s.c - 0) - i.toNat), S%v]) H (fun v7 H7 =>
 ∃ x3 : Int, v7 = I%x3 ∧ (
 0 ≤ (W% (i + (v.n : Int))) ∧ (W% (i + (v.n : Int))) ≤ (((tot.toNat - 0) : Nat) : Int) ∧ (
 0 ≤ j ∧ j ≤ (s.n : Int) ∧ (
 runH Tryz.prog (Builtin.copy_ #[t_sl_api_Range, t_sl_api_Range] t_int #[.slice (slP (slP s.p s.c 0 2) (s.c - 0) ((W% (i + (v.n : Int))).toNat) 2) ((tot.toNat - 0) - (W% (i + (v.n : Int))).toNat) ((s.c - 0) - (W% (i + (v.n : Int))).toNat), .slice (slP s.p s.c j.toNat 2) (s.n - j.toNat) (s.c - j.toNat)]) H7 (fun v8 H8 =>
 ∃ x4 : Int, v8 = I%x4 ∧ (
 0 ≤ tot ∧ tot ≤ (s.n : Int) ∧ (
 runH Tryz.prog (Builtin.clear_ #[t_sl_api_Range] 0 #[.slice (slP s.p s.c tot.toNat 2) (s.n - tot.toNat) (s.c - tot.toNat)]) H8 (fun v9 H9 =>
 v9 = .tuple #[] ∧ (
 R (.slice (slP s.p s.c 0 2) (tot.toNat - 0) (s.c - 0)) H9))))))))))) (
 0 ≤ (W% (i + (v.n : Int))) ∧ (W% (i + (v.n : Int))) ≤ (((tot.toNat - 0) : Nat) : Int) ∧ (
 runH Tryz.prog (callFunc n_slices_overlaps_api_Range #[.slice (slP (slP s.p s.c 0 2) (s.c - 0) ((W% (i + (v.n : Int))).toNat) 2) ((tot.toNat - 0) - (W% (i + (v.n : Int))).toNat) ((s.c - 0) - (W% (i + (v.n : Int))).toNat), S%v]) H (fun nx H10 => nextV nx (fun v10 =>
 ∃ x5 : Bool, v10 = .bool x5 ∧ (
 iteB (!x5) (
 0 ≤ (W% (i + (v.n : Int))) ∧ (W% (i + (v.n : Int))) ≤ (((tot.toNat - 0) : Nat) : Int) ∧ (
 0 ≤ j ∧ j ≤ (s.n : Int) ∧ (
 runH Tryz.prog (Builtin.copy_ #[t_sl_api_Range, t_sl_api_Range] t_int #[.slice (slP (slP s.p s.c 0 2) (s.c - 0) ((W% (i + (v.n : Int))).toNat) 2) ((tot.toNat - 0) - (W% (i + (v.n : Int))).toNat) ((s.c - 0) - (W% (i + (v.n : Int))).toNat), .slice (slP s.p s.c j.toNat 2) (s.n - j.toNat) (s.c - j.toNat)]) H10 (fun v11 H11 =>
 ∃ x6 : Int, v11 = I%x6 ∧ (
 0 ≤ i ∧ i ≤ (((tot.toNat - 0) : Nat) : Int) ∧ (
 runH Tryz.prog (Builtin.copy_ #[t_sl_api_Range, t_sl_api_Range] t_int #[.slice (slP (slP s.p s.c 0 2) (s.c - 0) i.toNat 2) ((tot.toNat - 0) - i.toNat) ((s.c - 0) - i.toNat), S%v]) H11 (fun v12 H12 =>
 ∃ x7 : Int, v12 = I%x7 ∧ (
 R (.slice (slP s.p s.c 0 2) (tot.toNat - 0) (s.c - 0)) H12)))))))) (
 v% y (W% ((v.n : Int) - (W% (j - i)))) (
 0 ≤ j ∧ j ≤ (((s.c - 0) : Nat) : Int) ∧ (
 0 ≤ i ∧ i ≤ (j.toNat : Int) ∧ (
 runH Tryz.prog (callFunc n_slices_overlaps_api_Range #[.slice (slP (slP s.p s.c 0 2) (s.c - 0) i.toNat 2) (j.toNat - i.toNat) ((s.c - 0) - i.toNat), S%v]) H10 (fun nx1 H13 => nextV nx1 (fun v13 =>
 ∃ x8 : Bool, v13 = .bool x8 ∧ (
 iteB (!x8) (
 0 ≤ j ∧ j ≤ (((s.c - 0) : Nat) : Int) ∧ (
 0 ≤ i ∧ i ≤ (j.toNat : Int) ∧ (
 0 ≤ y ∧ y ≤ (v.n : Int) ∧ (
 runH Tryz.prog (Builtin.copy_ #[t_sl_api_Range, t_sl_api_Range] t_int #[.slice (slP (slP s.p s.c 0 2) (s.c - 0) i.toNat 2) (j.toNat - i.toNat) ((s.c - 0) - i.toNat), .slice (slP v.p v.c y.toNat 2) (v.n - y.toNat) (v.c - y.toNat)]) H13 (fun v14 H14 =>
 ∃ x9 : Int, v14 = I%x9 ∧ (
 0 ≤ (s.n : Int) ∧ (s.n : Int) ≤ (((tot.toNat - 0) : Nat) : Int) ∧ (
 0 ≤ y ∧ y ≤ (v.c : Int) ∧ (
 runH Tryz.prog (Builtin.copy_ #[t_sl_api_Range, t_sl_api_Range] t_int #[.slice (slP (slP s.p s.c 0 2) (s.c - 0) ((s.n : Int).toNat) 2) ((tot.toNat - 0) - (s.n : Int).toNat) ((s.c - 0) - (s.n : Int).toNat), .slice (slP v.p v.c 0 2) (y.toNat - 0) (v.c - 0)]) H14 (fun v15 H15 =>
 ∃ x10 : Int, v15 = I%x10 ∧ (
 0 ≤ i ∧ i ≤ (((tot.toNat - 0) : Nat) : Int) ∧ (
 CallsH Tryz.prog n_slices_rotateRight_api_Range #[.slice (slP (slP s.p s.c 0 2) (s.c - 0) i.toNat 2) ((tot.toNat - 0) - i.toNat) ((s.c - 0) - i.toNat), I%y] H15 (fun v16 H16 =>
 v16 = .tuple #[] ∧ (
 R (.slice (slP s.p s.c 0 2) (tot.toNat - 0) (s.c - 0)) H16))))))))))))) (
 0 ≤ (s.n : Int) ∧ (s.n : Int) ≤ (((tot.toNat - 0) : Nat) : Int) ∧ (
 runH Tryz.prog (callFunc n_slices_overlaps_api_Range #[.slice (slP (slP s.p s.c 0 2) (s.c - 0) ((s.n : Int).toNat) 2) ((tot.toNat - 0) - (s.n : Int).toNat) ((s.c - 0) - (s.n : Int).toNat), S%v]) H13 (fun nx2 H17 => nextV nx2 (fun v17 =>
 ∃ x11 : Bool, v17 = .bool x11 ∧ (
 iteB (!x11) (
 0 ≤ (s.n : Int) ∧ (s.n : Int) ≤ (((tot.toNat - 0) : Nat) : Int) ∧ (
 0 ≤ y ∧ y ≤ (v.c : Int) ∧ (
 runH Tryz.prog (Builtin.copy_ #[t_sl_api_Range, t_sl_api_Range] t_int #[.slice (slP (slP s.p s.c 0 2) (s.c - 0) ((s.n : Int).toNat) 2) ((tot.toNat - 0) - (s.n : Int).toNat) ((s.c - 0) - (s.n : Int).toNat), .slice (slP v.p v.c 0 2) (y.toNat - 0) (v.c - 0)]) H17 (fun v18 H18 =>
 ∃ x12 : Int, v18 = I%x12 ∧ (
 0 ≤ j ∧ j ≤ (((s.c - 0) : Nat) : Int) ∧ (
 0 ≤ i ∧ i ≤ (j.toNat : Int) ∧ (
 0 ≤ y ∧ y ≤ (v.n : Int) ∧ (
 runH Tryz.prog (Builtin.copy_ #[t_sl_api_Range, t_sl_api_Range] t_int #[.slice (slP (slP s.p s.c 0 2) (s.c - 0) i.toNat 2) (j.toNat - i.toNat) ((s.c - 0) - i.toNat), .slice (slP v.p v.c y.toNat 2) (v.n - y.toNat) (v.c - y.toNat)]) H18 (fun v19 H19 =>
 ∃ x13 : Int, v19 = I%x13 ∧ (
 0 ≤ i ∧ i ≤ (((tot.toNat - 0) : Nat) : Int) ∧ (
 CallsH Tryz.prog n_slices_rotateRight_api_Range #[.slice (slP (slP s.p s.c 0 2) (s.c - 0) i.toNat 2) ((tot.toNat - 0) - i.toNat) ((s.c - 0) - i.toNat), I%y] H19 (fun v20 H20 =>
 v20 = .tuple #[] ∧ (
 R (.slice (slP s.p s.c 0 2) (tot.toNat - 0) (s.c - 0)) H20))))))))))))) (
 0 ≤ j ∧ j ≤ (s.n : Int) ∧ (
 CallsH Tryz.prog n_slices_startIdx_api_Range #[S%v, .slice (slP s.p s.c j.toNat 2) (s.n - j.toNat) (s.c - j.toNat)] H17 (fun v21 H21 =>
 ∃ k : Int, v21 = I%k ∧ (
 0 ≤ i ∧ i ≤ (((tot.toNat - 0) : Nat) : Int) ∧ (
 runH Tryz.prog (Builtin.copy_ #[t_sl_api_Range, t_sl_api_Range] t_int #[.slice (slP (slP s.p s.c 0 2) (s.c - 0) i.toNat 2) ((tot.toNat - 0) - i.toNat) ((s.c - 0) - i.toNat), S%v]) H21 (fun v22 H22 =>
 ∃ x14 : Int, v22 = I%x14 ∧ (
 0 ≤ (W% (i + (v.n : Int))) ∧ (W% (i + (v.n : Int))) ≤ (((tot.toNat - 0) : Nat) : Int) ∧ (
 0 ≤ (W% (i + k)) ∧ (W% (i + k)) ≤ (((tot.toNat - 0) : Nat) : Int) ∧ (
 runH Tryz.prog (Builtin.copy_ #[t_sl_api_Range, t_sl_api_Range] t_int #[.slice (slP (slP s.p s.c 0 2) (s.c - 0) ((W% (i + (v.n : Int))).toNat) 2) ((tot.toNat - 0) - (W% (i + (v.n : Int))).toNat) ((s.c - 0) - (W% (i + (v.n : Int))).toNat), .slice (slP (slP s.p s.c 0 2) (s.c - 0) ((W% (i + k)).toNat) 2) ((tot.toNat - 0) - (W% (i + k)).toNat) ((s.c - 0) - (W% (i + k)).toNat)]) H22 (fun v23 H23 =>
 ∃ x15 : Int, v23 = I%x15 ∧ (
 R (.slice (slP s.p s.c 0 2) (tot.toNat - 0) (s.c - 0)) H23)))))))))))))))))))))))))))))))))))))
theorem F_slices_Replace_sl_api_Range_api_Range_ok {R : V%} (s : Sl) (i j : Int) (v : Sl) {H : Heap} (h : F_slices_Replace_sl_api_Range_api_Range R s i j v H) : CallsH Tryz.prog n_slices_Replace_sl_api_Range_api_Range #[S%s, I%i, I%j, S%v] H R := wpF_ok Tryz.func128 (show wpF Tryz.prog Tryz.f128 [] [] [] [9] _ H R = F_slices_Replace_sl_api_Range_api_Range R s i j v H by kernel_rfl) h
def F_slices_insertionSortCmpFunc_int_r1 (data : Sl) (a : Int) (cap : Addr) (I_ : Int → P%) (M_ : Int → M%) (i1 : Int) (H1 : Heap) (I_1 : Int → P%) (M_1 : Int → M%) (j : Int) (H2 : Heap) : Prop :=
 iteB (decide (j > a)) (
 x% j data a1 ((
 i% x H2 (a1.add (j.toNat * 1)), (
 0 ≤ (W% (j - (1 : Int))) ∧ (W% (j - (1 : Int))) < (data.n : Int) ∧ (unSome data.p (fun a2 =>
 ∃ x1 : Int, rd H2 (a2.add ((W% (j - (1 : Int))).toNat * 1)) = some (I%x1) ∧ (
 CallsH Tryz.prog n_allocate_Place_1 #[I%x, I%x1, .pointer (some cap)] H2 (fun v H3 =>
 ∃ x2 : Int, v = I%x2 ∧ (
 iteB (decide (x2 < (0 : Int))) (
 0 ≤ (W% (j - (1 : Int))) ∧ (W% (j - (1 : Int))) < (data.n : Int) ∧ (unSome data.p (fun a3 =>
 ∃ x3 : Int, rd H3 (a3.add ((W% (j - (1 : Int))).toNat * 1)) = some (I%x3) ∧ (
 x% j data a4 ((
 i% x4 H3 (a4.add (j.toNat * 1)), (
 x% j data a5 ((
 okRow H3 (a5.add (j.toNat * 1)) 1 ∧ (
 h% H4 (wrs H3 (a5.add (j.toNat * 1)) [I%x3]) (
 0 ≤ (W% (j - (1 : Int))) ∧ (W% (j - (1 : Int))) < (data.n : Int) ∧ (unSome data.p (fun a6 =>
 okRow H4 (a6.add ((W% (j - (1 : Int))).toNat * 1)) 1 ∧ (
 h% H5 (wrs H4 (a6.add ((W% (j - (1 : Int))).toNat * 1)) [I%x4]) (
 v% j1 (W% (j - (1 : Int))) (
 I_1 j1 H5 ∧ M_1 j1 H5 < M_1 j H2)))))))))))))))) (
 v% i2 (W% (i1 + (1 : Int))) (
 I_ i2 H3 ∧ M_ i2 H3 < M_ i1 H1))))))))))) (
 v% i3 (W% (i1 + (1 : Int))) (
 I_ i3 H2 ∧ M_ i3 H2 < M_ i1 H1))
def F_slices_insertionSortCmpFunc_int_r2 (R : V%) (data : Sl) (a b : Int) (cap : Addr) (I_ : Int → P%) (M_ : Int → M%) (i1 : Int) (H1 : Heap) : Prop :=
 iteB (decide (i1 < b)) (
 ∃ I_1 : Int → P%, ∃ M_1 : Int → M%, I_1 i1 H1 ∧ (∀ j : Int, ∀ H2 : Heap, I_1 j H2 → F_slices_insertionSortCmpFunc_int_r1 data a cap I_ M_ i1 H1 I_1 M_1 j H2)) (
 R (.tuple #[]) H1)
def F_slices_insertionSortCmpFunc_int (R : V%) (data : Sl) (a b : Int) (cap : Addr) (H : Heap) : Prop :=
 v% i (W% (a + (1 : Int))) (
 ∃ I_ : Int → P%, ∃ M_ : Int → M%, I_ i H ∧ (∀ i1 : Int, ∀ H1 : Heap, I_ i1 H1 → F_slices_insertionSortCmpFunc_int_r2 R data a b cap I_ M_ i1 H1))
theorem F_slices_insertionSortCmpFunc_int_ok {R : V%} (data : Sl) (a b : Int) (cap : Addr) {H : Heap} (h : F_slices_insertionSortCmpFunc_int R data a b cap H) : CallsH Tryz.prog n_slices_insertionSortCmpFunc_int #[S%data, I%a, I%b, .func (.func 117) #[] #[.pointer (some cap)]] H R := wpF_ok Tryz.func138 (show wpF Tryz.prog Tryz.f138 [(8, I%0), (9, I%0)] [] [(1, [8], [0, 1, 2, 3]), (4, [9], [0, 1, 2, 3, 8])] [9] _ H R = F_slices_insertionSortCmpFunc_int R data a b cap H by kernel_rfl) h
def F_slices_symMergeCmpFunc_int_r1 (R : V%) (data : Sl) (i : Int) (I_1 : Int → P%) (M_1 : Int → M%) (k : Int) (H3 : Heap) : Prop :=
 iteB (decide (k < (W% (i - (1 : Int))))) (
 0 ≤ (W% (k + (1 : Int))) ∧ (W% (k + (1 : Int))) < (data.n : Int) ∧ (unSome data.p (fun a3 =>
 ∃ x3 : Int, rd H3 (a3.add ((W% (k + (1 : Int))).toNat * 1)) = some (I%x3) ∧ (
 x% k data a4 ((
 i% x4 H3 (a4.add (k.toNat * 1)), (
 x% k data a5 ((
 okRow H3 (a5.add (k.toNat * 1)) 1 ∧ (
 h% H4 (wrs H3 (a5.add (k.toNat * 1)) [I%x3]) (
 0 ≤ (W% (k + (1 : Int))) ∧ (W% (k + (1 : Int))) < (data.n : Int) ∧ (unSome data.p (fun a6 =>
 okRow H4 (a6.add ((W% (k + (1 : Int))).toNat * 1)) 1 ∧ (
 h% H5 (wrs H4 (a6.add ((W% (k + (1 : Int))).toNat * 1)) [I%x4]) (
 v% k1 (W% (k + (1 : Int))) (
 I_1 k1 H5 ∧ M_1 k1 H5 < M_1 k H3)))))))))))))))) (
 R (.tuple #[]) H3)
def F_slices_symMergeCmpFunc_int_r2 (R : V%) (data : Sl) (a : Int) (cap : Addr) (I_ : Int → Int → P%) (M_ : Int → Int → M%) (i j : Int) (H1 : Heap) : Prop :=
 iteB (decide (i < j)) (
 0 ≤ (1 : Int) ∧ (
 v% h (W% ((w% (W% (i + j))).fdiv (2 ^ (min (1 : Int).toNat IntKind.u64.bits)))) (
 x% h data a1 ((
 i% x H1 (a1.add (h.toNat * 1)), (
 x% a data a2 ((
 i% x1 H1 (a2.add (a.toNat * 1)), (
 CallsH Tryz.prog n_allocate_Place_1 #[I%x, I%x1, .pointer (some cap)] H1 (fun v H2 =>
 ∃ x2 : Int, v = I%x2 ∧ (
 iteB (decide (x2 < (0 : Int))) (
 v% i1 (W% (h + (1 : Int))) (
 I_ i1 j H2 ∧ M_ i1 j H2 < M_ i j H1)) (
 I_ i h H2 ∧ M_ i h H2 < M_ i j H1)))))))))))) (
 ∃ I_1 : Int → P%, ∃ M_1 : Int → M%, I_1 a H1 ∧ (∀ k : Int, ∀ H3 : Heap, I_1 k H3 → F_slices_symMergeCmpFunc_int_r1 R data i I_1 M_1 k H3))
def F_slices_symMergeCmpFunc_int_r3 (R : V%) (data : Sl) (i2 : Int) (I_3 : Int → P%) (M_3 : Int → M%) (k2 : Int) (H8 : Heap) : Prop :=
 iteB (decide (k2 > i2)) (
 0 ≤ (W% (k2 - (1 : Int))) ∧ (W% (k2 - (1 : Int))) < (data.n : Int) ∧ (unSome data.p (fun a9 =>
 ∃ x8 : Int, rd H8 (a9.add ((W% (k2 - (1 : Int))).toNat * 1)) = some (I%x8) ∧ (
 x% k2 data a10 ((
 i% x9 H8 (a10.add (k2.toNat * 1)), (
 x% k2 data a11 ((
 okRow H8 (a11.add (k2.toNat * 1)) 1 ∧ (
 h% H9 (wrs H8 (a11.add (k2.toNat * 1)) [I%x8]) (
 0 ≤ (W% (k2 - (1 : Int))) ∧ (W% (k2 - (1 : Int))) < (data.n : Int) ∧ (unSome data.p (fun a12 =>
 okRow H9 (a12.add ((W% (k2 - (1 : Int))).toNat * 1)) 1 ∧ (
 h% H10 (wrs H9 (a12.add ((W% (k2 - (1 : Int))).toNat * 1)) [I%x9]) (
 v% k3 (W% (k2 - (1 : Int))) (
 I_3 k3 H10 ∧ M_3 k3 H10 < M_3 k2 H8)))))))))))))))) (
 R (.tuple #[]) H8)
def F_slices_symMergeCmpFunc_int_r4 (R : V%) (data : Sl) (m : Int) (cap : Addr) (I_2 : Int → Int → P%) (M_2 : Int → Int → M%) (i2 j1 : Int) (H6 : Heap) : Prop :=
 iteB (decide (i2 < j1)) (
 0 ≤ (1 : Int) ∧ (
 v% h1 (W% ((w% (W% (i2 + j1))).fdiv (2 ^ (min (1 : Int).toNat IntKind.u64.bits)))) (
 x% m data a7 ((
 i% x5 H6 (a7.add (m.toNat * 1)), (
 x% h1 data a8 ((
 i% x6 H6 (a8.add (h1.toNat * 1)), (
 CallsH Tryz.prog n_allocate_Place_1 #[I%x5, I%x6, .pointer (some cap)] H6 (fun v1 H7 =>
 ∃ x7 : Int, v1 = I%x7 ∧ (
 iteB (!(decide (x7 < (0 : Int)))) (
 v% i3 (W% (h1 + (1 : Int))) (
 I_2 i3 j1 H7 ∧ M_2 i3 j1 H7 < M_2 i2 j1 H6)) (
 I_2 i2 h1 H7 ∧ M_2 i2 h1 H7 < M_2 i2 j1 H6)))))))))))) (
 ∃ I_3 : Int → P%, ∃ M_3 : Int → M%, I_3 m H6 ∧ (∀ k2 : Int, ∀ H8 : Heap, I_3 k2 H8 → F_slices_symMergeCmpFunc_int_r3 R data i2 I_3 M_3 k2 H8))
def F_slices_symMergeCmpFunc_int_k5 (data : Sl) (m : Int) (cap : Addr) (start2 endv : Int) (J_1 : P%) (x13 : Bool) (H14 : Heap) : Prop :=
 iteB x13 (
 CallsH Tryz.prog n_slices_rotateCmpFunc_int #[S%data, I%start2, I%m, I%endv, .func (.func 117) #[] #[.pointer (some cap)]] H14 (fun v3 H15 =>
 v3 = .tuple #[] ∧ (
 J_1 H15))) (
 J_1 H14)
def F_slices_symMergeCmpFunc_int_k6 (data : Sl) (a : Int) (cap : Addr) (mid start2 : Int) (J_3 : P%) (x14 : Bool) (H17 : Heap) : Prop :=
 iteB x14 (
 CallsH Tryz.prog n_slices_symMergeCmpFunc_int #[S%data, I%a, I%start2, I%mid, .func (.func 117) #[] #[.pointer (some cap)]] H17 (fun v4 H18 =>
 v4 = .tuple #[] ∧ (
 J_3 H18))) (
 J_3 H17)
def F_slices_symMergeCmpFunc_int_k7 (R : V%) (data : Sl) (b : Int) (cap : Addr) (mid endv : Int) (x15 : Bool) (H20 : Heap) : Prop :=
 iteB x15 (
 CallsH Tryz.prog n_slices_symMergeCmpFunc_int #[S%data, I%mid, I%endv, I%b, .func (.func 117) #[] #[.pointer (some cap)]] H20 (fun v5 H21 =>
 v5 = .tuple #[] ∧ (
 R (.tuple #[]) H21))) (
 R (.tuple #[]) H20)
def F_slices_symMergeCmpFunc_int_k8 (R : V%) (data : Sl) (b : Int) (cap : Addr) (mid endv : Int) (H19 : Heap) : Prop :=
 ∃ J_5 : Bool → P%, (
 iteB (decide (mid < endv)) (
 J_5 (decide (endv < b)) H19) (
 J_5 false H19)) ∧ (∀ x15 : Bool, ∀ H20 : Heap, J_5 x15 H20 → F_slices_symMergeCmpFunc_int_k7 R data b cap mid endv x15 H20)
def F_slices_symMergeCmpFunc_int_k9 (R : V%) (data : Sl) (a b : Int) (cap : Addr) (mid start2 endv : Int) (H16 : Heap) : Prop :=
 ∃ J_3 : P%, (
 ∃ J_4 : Bool → P%, (
 iteB (decide (a < start2)) (
 J_4 (decide (start2 < mid)) H16) (
 J_4 false H16)) ∧ (∀ x14 : Bool, ∀ H17 : Heap, J_4 x14 H17 → F_slices_symMergeCmpFunc_int_k6 data a cap mid start2 J_3 x14 H17)) ∧ (∀ H19 : Heap, J_3 H19 → F_slices_symMergeCmpFunc_int_k8 R data b cap mid endv H19)
def F_slices_symMergeCmpFunc_int_r10 (R : V%) (data : Sl) (a m b : Int) (cap : Addr) (mid n p : Int) (I_4 : Int → Int → P%) (M_4 : Int → Int → M%) (start2 r1 : Int) (H12 : Heap) : Prop :=
 iteB (decide (start2 < r1)) (
 0 ≤ (1 : Int) ∧ (
 v% c (W% ((w% (W% (start2 + r1))).fdiv (2 ^ (min (1 : Int).toNat IntKind.u64.bits)))) (
 0 ≤ (W% (p - c)) ∧ (W% (p - c)) < (data.n : Int) ∧ (unSome data.p (fun a13 =>
 i% x10 H12 (a13.add ((W% (p - c)).toNat * 1)), (
 x% c data a14 ((
 i% x11 H12 (a14.add (c.toNat * 1)), (
 CallsH Tryz.prog n_allocate_Place_1 #[I%x10, I%x11, .pointer (some cap)] H12 (fun v2 H13 =>
 ∃ x12 : Int, v2 = I%x12 ∧ (
 iteB (!(decide (x12 < (0 : Int)))) (
 v% start3 (W% (c + (1 : Int))) (
 I_4 start3 r1 H13 ∧ M_4 start3 r1 H13 < M_4 start2 r1 H12)) (
 I_4 start2 c H13 ∧ M_4 start2 c H13 < M_4 start2 r1 H12)))))))))))) (
 v% endv (W% (n - start2)) (
 ∃ J_1 : P%, (
 ∃ J_2 : Bool → P%, (
 iteB (decide (start2 < m)) (
 J_2 (decide (m < endv)) H12) (
 J_2 false H12)) ∧ (∀ x13 : Bool, ∀ H14 : Heap, J_2 x13 H14 → F_slices_symMergeCmpFunc_int_k5 data m cap start2 endv J_1 x13 H14)) ∧ (∀ H16 : Heap, J_1 H16 → F_slices_symMergeCmpFunc_int_k9 R data a b cap mid start2 endv H16)))
def F_slices_symMergeCmpFunc_int_k11 (R : V%) (data : Sl) (a m b : Int) (cap : Addr) (mid n start1 r : Int) (H11 : Heap) : Prop :=
 v% p (W% (n - (1 : Int))) (
 ∃ I_4 : Int → Int → P%, ∃ M_4 : Int → Int → M%, I_4 start1 r H11 ∧ (∀ start2 r1 : Int, ∀ H12 : Heap, I_4 start2 r1 H12 → F_slices_symMergeCmpFunc_int_r10 R data a m b cap mid n p I_4 M_4 start2 r1 H12))
def F_slices_symMergeCmpFunc_int (R : V%) (data : Sl) (a m b : Int) (cap : Addr) (H : Heap) : Prop :=
 iteB ((W% (m - a)) == (1 : Int)) (
 ∃ I_ : Int → Int → P%, ∃ M_ : Int → Int → M%, I_ m b H ∧ (∀ i j : Int, ∀ H1 : Heap, I_ i j H1 → F_slices_symMergeCmpFunc_int_r2 R data a cap I_ M_ i j H1)) (
 iteB ((W% (b - m)) == (1 : Int)) (
 ∃ I_2 : Int → Int → P%, ∃ M_2 : Int → Int → M%, I_2 a m H ∧ (∀ i2 j1 : Int, ∀ H6 : Heap, I_2 i2 j1 H6 → F_slices_symMergeCmpFunc_int_r4 R data m cap I_2 M_2 i2 j1 H6)) (
 0 ≤ (1 : Int) ∧ (
 v% mid (W% ((w% (W% (a + b))).fdiv (2 ^ (min (1 : Int).toNat IntKind.u64.bits)))) (
 v% n (W% (mid + m)) (
 ∃ J_ : Int → Int → P%, (
 iteB (decide (m > mid)) (
 v% start (W% (n - b)) (
 J_ start mid H)) (
 J_ a m H)) ∧ (∀ start1 r : Int, ∀ H11 : Heap, J_ start1 r H11 → F_slices_symMergeCmpFunc_int_k11 R data a m b cap mid n start1 r H11))))))
theorem F_slices_symMergeCmpFunc_int_ok {R : V%} (data : Sl) (a m b : Int) (cap : Addr) {H : Heap} (h : F_slices_symMergeCmpFunc_int R data a m b cap H) : CallsH Tryz.prog n_slices_symMergeCmpFunc_int #[S%data, I%a, I%m, I%b, .func (.func 117) #[] #[.pointer (some cap)]] H R := wpF_ok Tryz.func139 (show wpF Tryz.prog Tryz.f139 [(10, I%0), (11, I%0), (13, I%0), (14, I%0), (15, I%0), (17, I%0), (20, I%0), (21, I%0), (185, .bool false), (199, .bool false), (213, .bool false)] [(32, [20, 21], [0, 1, 2, 3, 4, 18, 19]), (41, [], [0, 1, 3, 4, 18, 20, 24]), (40, [185], [0, 1, 2, 3, 4, 18, 20, 24]), (43, [], [0, 3, 4, 18, 24]), (42, [199], [0, 1, 3, 4, 18, 20, 24]), (44, [213], [0, 3, 4, 18, 24])] [(3, [10, 11], [0, 1, 4]), (9, [13], [0, 10]), (15, [14, 15], [0, 2, 4]), (21, [17], [0, 14]), (33, [20, 21], [0, 1, 2, 3, 4, 18, 19, 22])] [9] _ H R = F_slices_symMergeCmpFunc_int R data a m b cap H by kernel_rfl) h
def F_slices_rotateCmpFunc_int_r1 (R : V%) (data : Sl) (m : Int) (cap : Addr) (I_ : Int → Int → P%) (M_ : Int → Int → M%) (i1 j1 : Int) (H1 : Heap) : Prop :=
 iteB (i1 != j1) (
 iteB (decide (i1 > j1)) (
 CallsH Tryz.prog n_slices_swapRangeCmpFunc_int #[S%data, I%(W% (m - i1)), I%m, I%j1, .func (.func 117) #[] #[.pointer (some cap)]] H1 (fun v H2 =>
 v = .tuple #[] ∧ (
 v% i2 (W% (i1 - j1)) (
 I_ i2 j1 H2 ∧ M_ i2 j1 H2 < M_ i1 j1 H1)))) (
 CallsH Tryz.prog n_slices_swapRangeCmpFunc_int #[S%data, I%(W% (m - i1)), I%(W% ((W% (m + j1)) - i1)), I%i1, .func (.func 117) #[] #[.pointer (some cap)]] H1 (fun v1 H3 =>
 v1 = .tuple #[] ∧ (
 v% j2 (W% (j1 - i1)) (
 I_ i1 j2 H3 ∧ M_ i1 j2 H3 < M_ i1 j1 H1))))) (
 CallsH Tryz.prog n_slices_swapRangeCmpFunc_int #[S%data, I%(W% (m - i1)), I%m, I%i1, .func (.func 117) #[] #[.pointer (some cap)]] H1 (fun v2 H4 =>
 v2 = .tuple #[] ∧ (
 R (.tuple #[]) H4)))
def F_slices_rotateCmpFunc_int (R : V%) (data : Sl) (a m b : Int) (cap : Addr) (H : Heap) : Prop :=
 v% i (W% (m - a)) (
 v% j (W% (b - m)) (
 ∃ I_ : Int → Int → P%, ∃ M_ : Int → Int → M%, I_ i j H ∧ (∀ i1 j1 : Int, ∀ H1 : Heap, I_ i1 j1 H1 → F_slices_rotateCmpFunc_int_r1 R data m cap I_ M_ i1 j1 H1)))
theorem F_slices_rotateCmpFunc_int_ok {R : V%} (data : Sl) (a m b : Int) (cap : Addr) {H : Heap} (h : F_slices_rotateCmpFunc_int R data a m b cap H) : CallsH Tryz.prog n_slices_rotateCmpFunc_int #[S%data, I%a, I%m, I%b, .func (.func 117) #[] #[.pointer (some cap)]] H R := wpF_ok Tryz.func149 (show wpF Tryz.prog Tryz.f149 [(10, I%0), (11, I%0)] [] [(2, [10, 11], [0, 2, 4])] [9] _ H R = F_slices_rotateCmpFunc_int R data a m b cap H by kernel_rfl) h
def F_slices_swapRangeCmpFunc_int_r1 (R : V%) (data : Sl) (a b n : Int) (I_ : Int → P%) (M_ : Int → M%) (i : Int) (H1 : Heap) : Prop :=
 iteB (decide (i < n)) (
 0 ≤ (W% (b + i)) ∧ (W% (b + i)) < (data.n : Int) ∧ (unSome data.p (fun a1 =>
 i% x H1 (a1.add ((W% (b + i)).toNat * 1)), (
 0 ≤ (W% (a + i)) ∧ (W% (a + i)) < (data.n : Int) ∧ (unSome data.p (fun a2 =>
 i% x1 H1 (a2.add ((W% (a + i)).toNat * 1)), (
 0 ≤ (W% (a + i)) ∧ (W% (a + i)) < (data.n : Int) ∧ (unSome data.p (fun a3 =>
 okRow H1 (a3.add ((W% (a + i)).toNat * 1)) 1 ∧ (
 h% H2 (wrs H1 (a3.add ((W% (a + i)).toNat * 1)) [I%x]) (
 0 ≤ (W% (b + i)) ∧ (W% (b + i)) < (data.n : Int) ∧ (unSome data.p (fun a4 =>
 okRow H2 (a4.add ((W% (b + i)).toNat * 1)) 1 ∧ (
 h% H3 (wrs H2 (a4.add ((W% (b + i)).toNat * 1)) [I%x1]) (
 v% i1 (W% (i + (1 : Int))) (
 I_ i1 H3 ∧ M_ i1 H3 < M_ i H1)))))))))))))))) (
 R (.tuple #[]) H1)
def F_slices_swapRangeCmpFunc_int (R : V%) (data : Sl) (a b n : Int) (cap : Addr) (H : Heap) : Prop :=
 ∃ I_ : Int → P%, ∃ M_ : Int → M%, I_ (0 : Int) H ∧ (∀ i : Int, ∀ H1 : Heap, I_ i H1 → F_slices_swapRangeCmpFunc_int_r1 R data a b n I_ M_ i H1)
theorem F_slices_swapRangeCmpFunc_int_ok {R : V%} (data : Sl) (a b n : Int) (cap : Addr) {H : Heap} (h : F_slices_swapRangeCmpFunc_int R data a b n cap H) : CallsH Tryz.prog n_slices_swapRangeCmpFunc_int #[S%data, I%a, I%b, I%n, .func (.func 117) #[] #[.pointer (some cap)]] H R := wpF_ok Tryz.func152 (show wpF Tryz.prog Tryz.f152 [(10, I%0)] [] [(1, [10], [0, 1, 2, 3])] [9] _ H R = F_slices_swapRangeCmpFunc_int R data a b n cap H by kernel_rfl) h

end Go.Proofs.YtnhhncjflnlfaaaGreat
