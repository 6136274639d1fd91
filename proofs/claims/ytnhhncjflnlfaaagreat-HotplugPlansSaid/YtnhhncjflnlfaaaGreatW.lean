/-
  The shallow readings of this seat's functions, written by a program (gen.py); the kernel holds each against the loaded program.
-/
import Derived.Test.YtnhhncjflnlfaaaGreatProg
import Derived.Test.YtnhhncjflnlfaaaGreatW2
namespace Go.Proofs.YtnhhncjflnlfaaaGreat
open Go.Eng
set_option linter.unusedVariables false
open IntKind (i64 u64 u8)

def F_97 (R : VP) (l : Sl) (high : Bool) (function kind : Int) (H : Heap) : Prop :=
 iteB (kind == (1 : Int)) (
 R (vO) H) (
 iteB (kind == (4 : Int)) (
 iteB high (
 CallsH Tryz.prog n_98 #[vS l, vI function] H (fun v H1 =>
 ∃ x : Bool, v = .bool x /\ (
 iteB x (
 R (vI (2 : Int)) H1) (
 R (vI (1 : Int)) H1)))) (
 R (vI (1 : Int)) H)) (
 R (vI (1 : Int)) H))
theorem F_97_ok {R : VP} (l : Sl) (high : Bool) (function kind : Int) {H : Heap} (h : F_97 R l high function kind H) : CallsH Tryz.prog n_97 #[vS l, .bool high, vI function, vI kind] H R := wpF_ok Tryz.func97 (show wpF Tryz.prog Tryz.f97 [] [] [] [9] _ H R = F_97 R l high function kind H by kernel_rfl) h
def F_98_r1 (R : VP) (l : Sl) (I_ : Int -> HP) (M_ : Int -> HN) (i1 : Int) (H1 : Heap) : Prop :=
 iteB (decide (i1 >= (0 : Int))) (
 (xA i1 l (fun a1 =>
 ∃ x, lB H1 ((a1.add (i1.toNat * 11)).add 5) x /\ (
 iteB (!x) (
 R (.bool false) H1) (
 (xA i1 l (fun a2 =>
 ∃ i2, lI H1 (a2.add (i1.toNat * 11)) i2 /\ (
 I_ i2 H1 /\ M_ i2 H1 < M_ i1 H1)))))))) (
 R (.bool true) H1)
def F_98 (R : VP) (l : Sl) (function : Int) (H : Heap) : Prop :=
 (xA function l (fun a =>
 ∃ i, lI H (a.add (function.toNat * 11)) i /\ (
 ∃ I_ : Int -> HP, ∃ M_ : Int -> HN, I_ i H /\ (∀ i1 : Int, ∀ H1 : Heap, I_ i1 H1 -> F_98_r1 R l I_ M_ i1 H1))))
theorem F_98_ok {R : VP} (l : Sl) (function : Int) {H : Heap} (h : F_98 R l function H) : CallsH Tryz.prog n_98 #[vS l, vI function] H R := wpF_ok Tryz.func98 (show wpF Tryz.prog Tryz.f98 [(5, vI 0)] [] [(2, [5], [0])] [9] _ H R = F_98 R l function H by kernel_rfl) h
def F_99_k1 (R : VP) (sum smallest2 : Int) (H4 : Heap) : Prop :=
 iteB (decide (sum > (0 : Int))) (
 CallsH Tryz.prog n_115 #[vU (u64.wrap (sum - (1 : Int)))] H4 (fun v H5 =>
 ∃ x1 : Int, v = vI x1 /\ (
 letV (if x1 > smallest2 then x1 else smallest2) (fun smallest3 =>
 R (.tuple #[vI smallest3, .bool true]) H5)))) (
 R (.tuple #[vI smallest2, .bool true]) H4)
def F_99_k2 (R : VP) (hotplug : Bool) (sum smallest spare : Int) (H3 : Heap) : Prop :=
 ∃ J_2 : Int -> HP, (
 iteB hotplug (
 letV (if spare > smallest then spare else smallest) (fun smallest1 =>
 J_2 smallest1 H3)) (
 J_2 smallest H3)) /\ (∀ smallest2 : Int, ∀ H4 : Heap, J_2 smallest2 H4 -> F_99_k1 R sum smallest2 H4)
def F_99_r3 (R : VP) (sizes : Sl) (classv : Int) (hotplug : Bool) (I_ : Int -> Int -> HP) (M_ : Int -> Int -> HN) (sum x : Int) (H2 : Heap) : Prop :=
 iteB (decide (x < (sizes.n : Int))) (
 (xA x sizes (fun a =>
 ∃ size, lI H2 (a.add (x.toNat * 1)) size /\ (
 iteB (decide (size < (0 : Int))) (
 R (.tuple #[vO, .bool false]) H2) (
 iteB (decide (size > (44 : Int))) (
 R (.tuple #[vO, .bool false]) H2) (
 0 <= size /\ (
 letV (u64.wrap (sum + (u64.wrap ((1 : Int) * 2 ^ (min size.toNat IntKind.u64.bits))))) (fun sum1 =>
 I_ sum1 (i64.wrap (x + (1 : Int))) H2 /\ M_ sum1 (i64.wrap (x + (1 : Int))) H2 < M_ sum x H2)))))))) (
 ∃ J_1 : Int -> Int -> HP, (
 iteB (classv == (0 : Int)) (
 J_1 (12 : Int) (12 : Int) H2) (
 J_1 (20 : Int) (22 : Int) H2)) /\ (∀ smallest spare : Int, ∀ H3 : Heap, J_1 smallest spare H3 -> F_99_k2 R hotplug sum smallest spare H3))
def F_99_k4 (R : VP) (sizes : Sl) (classv : Int) (hotplug : Bool) (H1 : Heap) : Prop :=
 ∃ I_ : Int -> Int -> HP, ∃ M_ : Int -> Int -> HN, I_ (0 : Int) (0 : Int) H1 /\ (∀ sum x : Int, ∀ H2 : Heap, I_ sum x H2 -> F_99_r3 R sizes classv hotplug I_ M_ sum x H2)
def F_99 (R : VP) (sizes : Sl) (classv : Int) (hotplug : Bool) (H : Heap) : Prop :=
 ∃ J_ : HP, (
 iteB ((sizes.n : Int) == (0 : Int)) (
 iteB (!hotplug) (
 R (.tuple #[vO, .bool false]) H) (
 iteB (decide ((sizes.n : Int) > (1024 : Int))) (
 R (.tuple #[vO, .bool false]) H) (
 iteB (decide (classv < (0 : Int))) (
 R (.tuple #[vO, .bool false]) H) (
 iteB (decide (classv >= (3 : Int))) (
 R (.tuple #[vO, .bool false]) H) (
 J_ H))))) (
 iteB (decide ((sizes.n : Int) > (1024 : Int))) (
 R (.tuple #[vO, .bool false]) H) (
 iteB (decide (classv < (0 : Int))) (
 R (.tuple #[vO, .bool false]) H) (
 iteB (decide (classv >= (3 : Int))) (
 R (.tuple #[vO, .bool false]) H) (
 J_ H))))) /\ (∀ H1 : Heap, J_ H1 -> F_99_k4 R sizes classv hotplug H1)
theorem F_99_ok {R : VP} (sizes : Sl) (classv : Int) (hotplug : Bool) {H : Heap} (h : F_99 R sizes classv hotplug H) : CallsH Tryz.prog n_99 #[vS sizes, vI classv, .bool hotplug] H R := wpF_ok Tryz.func99 (show wpF Tryz.prog Tryz.f99 [(8, vU 0), (11, vI 0), (12, vI 0), (35, vI 0)] [(3, [], [0, 1, 2]), (14, [11, 12], [2, 8]), (16, [11], [8])] [(5, [8, 35], [1, 2, 33, 34])] [9] _ H R = F_99 R sizes classv hotplug H by kernel_rfl) h
def F_100_r1 (R : VP) (s : Sl) (c0 : Addr) (c1 : Addr) (I_ : Int -> HP) (M_ : Int -> HN) (x : Int) (H1 : Heap) : Prop :=
 iteB (decide (x < (s.n : Int))) (
 (xA x s (fun a =>
 ∃ x1, lI H1 (a.add (x.toNat * 4)) x1 /\ ∃ x2, lI H1 ((a.add (x.toNat * 4)).add 1) x2 /\ ∃ x3, lI H1 ((a.add (x.toNat * 4)).add 2) x3 /\ ∃ x4, lI H1 ((a.add (x.toNat * 4)).add 3) x4 /\ (
 CallsH Tryz.prog n_101 #[.agg #[vI x1, vI x2, vI x3, vI x4], .pointer (some c0), .pointer (some c1)] H1 (fun v H2 =>
 ∃ x5 : Bool, v = .bool x5 /\ (
 iteB x5 (
 R (vI x) H2) (
 I_ (i64.wrap (x + (1 : Int))) H2 /\ M_ (i64.wrap (x + (1 : Int))) H2 < M_ x H1))))))) (
 R (vI (-1 : Int)) H1)
def F_100 (R : VP) (s : Sl) (c0 : Addr) (c1 : Addr) (H : Heap) : Prop :=
 ∃ I_ : Int -> HP, ∃ M_ : Int -> HN, I_ (0 : Int) H /\ (∀ x : Int, ∀ H1 : Heap, I_ x H1 -> F_100_r1 R s c0 c1 I_ M_ x H1)
theorem F_100_ok {R : VP} (s : Sl) (c0 : Addr) (c1 : Addr) {H : Heap} (h : F_100 R s c0 c1 H) : CallsH Tryz.prog n_100 #[vS s, .func (.func 101) #[] #[.pointer (some c0), .pointer (some c1)]] H R := wpF_ok Tryz.func100 (show wpF Tryz.prog Tryz.f100 [(8, vI 0)] [] [(2, [8], [0, 1, 7])] [9] _ H R = F_100 R s c0 c1 H by kernel_rfl) h
def F_101 (R : VP) (d_0 d_1 d_2 d_3 : Int) (cap0 : Addr) (cap1 : Addr) (H : Heap) : Prop :=
 letH (H.push (.cells #[vI d_0, vI d_1, vI d_2, vI d_3] t_29 (0, 0))) (fun H1 =>
 ∃ x, lI H1 (aZ H) x /\ (
 ∃ x1, lI H1 cap0 x1 /\ (
 iteB (x == x1) (
 ∃ x2, lI H1 (aP H 1) x2 /\ (
 ∃ x3, lI H1 cap1 x3 /\ (
 R (.bool (x2 == x3)) H1))) (
 R (.bool false) H1))))
theorem F_101_ok {R : VP} (d_0 d_1 d_2 d_3 : Int) (cap0 : Addr) (cap1 : Addr) {H : Heap} (h : F_101 R d_0 d_1 d_2 d_3 cap0 cap1 H) : CallsH Tryz.prog n_101 #[.agg #[vI d_0, vI d_1, vI d_2, vI d_3], .pointer (some cap0), .pointer (some cap1)] H R := wpF_ok Tryz.func101 (show wpF Tryz.prog Tryz.f101 [] [] [] [9] _ H R = F_101 R d_0 d_1 d_2 d_3 cap0 cap1 H by kernel_rfl) h
def F_102 (R : VP) (x : Addr) (i : Int) (H : Heap) : Prop :=
 letH (H.push (.cells #[vU (0 : Int), vU (0 : Int)] t_95 (0, 0))) (fun H1 =>
 ∃ x1, lS H1 (x.add 3) x1 /\ (
 (xA i x1 (fun a =>
 ∃ x2, lU H1 (a.add (i.toNat * 1)) x2 /\ (
 ∃ x3, lS H1 (x.add 2) x3 /\ (
 (xA i x3 (fun a1 =>
 ∃ x4, lI H1 ((a1.add (i.toNat * 4)).add 3) x4 /\ (
 0 <= (u64.wrap x4) /\ (
 okRow H1 (aZ H) 2 /\ (
 letH (wrs H1 (aZ H) [vU x2, vU (u64.wrap ((1 : Int) * 2 ^ (min (u64.wrap x4).toNat IntKind.u64.bits)))]) (fun H2 =>
 ∃ r, lU H2 (aZ H) r /\ ∃ r1, lU H2 (aP H 1) r1 /\ (
 R (.agg #[vU r, vU r1]) H2)))))))))))))
theorem F_102_ok {R : VP} (x : Addr) (i : Int) {H : Heap} (h : F_102 R x i H) : CallsH Tryz.prog n_102 #[.pointer (some x), vI i] H R := wpF_ok Tryz.func102 (show wpF Tryz.prog Tryz.f102 [] [] [] [9] _ H R = F_102 R x i H by kernel_rfl) h
def F_103_r1 (R : VP) (H : Heap) (free : Sl) (H1 H3 : Heap) (x2 : Sl) (H9 : Heap) (x4 : Sl) (I_1 : Sl -> Int -> HP) (M_1 : Sl -> Int -> HN) (left1 : Sl) (x5 : Int) (H11 : Heap) : Prop :=
 iteB (decide (x5 < (((x2.n : Int).toNat : Nat) : Int))) (
 0 <= x5 /\ x5 < (((x2.n : Int).toNat : Nat) : Int) /\ (∃ item, lI H11 ((aZ H3).add (x5.toNat * 1)) item /\ (
 ∃ x6, lS H11 (aZ H) x6 /\ (
 (xA item x6 (fun a =>
 ∃ x7, lI H11 (a.add (item.toNat * 1)) x7 /\ (
 CallsH Tryz.prog n_119 #[vS left1, vI x7] H11 (fun v3 H12 =>
 ∃ x8 : Int, ∃ x9 : Sl, ∃ x10 : Bool, v3 = .tuple #[vU x8, vS x9, .bool x10] /\ (
 iteB (!x10) (
 ∃ x11, lS H12 (aZ H) x11 /\ (
 CallsH Tryz.prog n_91 #[vS free] H12 (fun v4 H13 =>
 ∃ x12 : Sl, v4 = vS x12 /\ (
 Keeps H12 H13 [((aZ H), 1)] /\ (
 CallsH Tryz.prog n_120 #[vS x12, vS x11] H13 (fun v5 H14 =>
 ∃ x13 x14 : Int, ∃ x15 x16 : Int, v5 = .agg #[vI x13, vI x14, vU x15, vU x16] /\ (
 okRow H14 (aZ H1) 4 /\ (
 letH (wrs H14 (aZ H1) [vI x13, vI x14, vU x15, vU x16]) (fun H15 =>
 ∃ r4, lI H15 (aZ H1) r4 /\ ∃ r5, lI H15 (aP H1 1) r5 /\ ∃ r6, lU H15 (aP H1 2) r6 /\ ∃ r7, lU H15 (aP H1 3) r7 /\ (
 R (.tuple #[vN, .agg #[vI r4, vI r5, vU r6, vU r7], vI (19 : Int)]) H15)))))))))) (
 0 <= item /\ item < (((x4.n : Int).toNat : Nat) : Int) /\ (okRow H12 ((aZ H9).add (item.toNat * 1)) 1 /\ (
 letH (wrs H12 ((aZ H9).add (item.toNat * 1)) [vU x8]) (fun H16 =>
 I_1 x9 (i64.wrap (x5 + (1 : Int))) H16 /\ M_1 x9 (i64.wrap (x5 + (1 : Int))) H16 < M_1 left1 x5 H11))))))))))))) (
 okRow H11 (aZ H1) 4 /\ (
 letH (wrs H11 (aZ H1) [vO, vO, vU (0 : Int), vU (0 : Int)]) (fun H17 =>
 ∃ r8, lI H17 (aZ H1) r8 /\ ∃ r9, lI H17 (aP H1 1) r9 /\ ∃ r10, lU H17 (aP H1 2) r10 /\ ∃ r11, lU H17 (aP H1 3) r11 /\ (
 R (.tuple #[.slice (some (aZ H9)) ((x4.n : Int).toNat) ((x4.n : Int).toNat), .agg #[vI r8, vI r9, vU r10, vU r11], vO]) H17))))
def F_103_r2 (R : VP) (H : Heap) (free : Sl) (H1 H3 : Heap) (x2 : Sl) (I_ : Int -> HP) (M_ : Int -> HN) (x3 : Int) (H6 : Heap) : Prop :=
 iteB (decide (x3 < (((x2.n : Int).toNat : Nat) : Int))) (
 0 <= x3 /\ x3 < (((x2.n : Int).toNat : Nat) : Int) /\ (okRow H6 ((aZ H3).add (x3.toNat * 1)) 1 /\ (
 letH (wrs H6 ((aZ H3).add (x3.toNat * 1)) [vI x3]) (fun H7 =>
 I_ (i64.wrap (x3 + (1 : Int))) H7 /\ M_ (i64.wrap (x3 + (1 : Int))) H7 < M_ x3 H6)))) (
 CallsH Tryz.prog n_116 #[.slice (some (aZ H3)) ((x2.n : Int).toNat) ((x2.n : Int).toNat), .func (.func 117) #[] #[.pointer (some (aZ H))]] H6 (fun v1 H8 =>
 v1 = .tuple #[] /\ (
 CallsH Tryz.prog n_91 #[vS free] H8 (fun v2 H9 =>
 ∃ left : Sl, v2 = vS left /\ (
 ∃ x4, lS H9 (aZ H) x4 /\ (
 0 <= (x4.n : Int) /\ (x4.n : Int) <= (x4.n : Int) /\ (x4.n : Int) * ((8 : Nat) : Int) <= 281474976710656 /\ (
 letH (H9.push (.cells (zeroRow (vU (0 : Int)) (x4.n : Int).toNat) t_30 (0, 0))) (fun H10 =>
 ∃ I_1 : Sl -> Int -> HP, ∃ M_1 : Sl -> Int -> HN, I_1 left (0 : Int) H10 /\ (∀ left1 : Sl, ∀ x5 : Int, ∀ H11 : Heap, I_1 left1 x5 H11 -> F_103_r1 R H free H1 H3 x2 H9 x4 I_1 M_1 left1 x5 H11)))))))))
def F_103 (R : VP) (free sizes : Sl) (H : Heap) : Prop :=
 letH (H.push (.cells #[vS sizes] t_52 (0, 0))) (fun H1 =>
 letH (H1.push (.cells #[vO, vO, vU (0 : Int), vU (0 : Int)] t_39 (0, 0))) (fun H2 =>
 ∃ x, lS H2 (aZ H) x /\ (
 CallsH Tryz.prog n_55 #[vS free, vS x] H2 (fun v H3 =>
 ∃ x1 : Bool, v = .bool x1 /\ (
 iteB (!x1) (
 okRow H3 (aZ H1) 4 /\ (
 letH (wrs H3 (aZ H1) [vO, vO, vU (0 : Int), vU (0 : Int)]) (fun H4 =>
 ∃ r, lI H4 (aZ H1) r /\ ∃ r1, lI H4 (aP H1 1) r1 /\ ∃ r2, lU H4 (aP H1 2) r2 /\ ∃ r3, lU H4 (aP H1 3) r3 /\ (
 R (.tuple #[vN, .agg #[vI r, vI r1, vU r2, vU r3], vI (1 : Int)]) H4)))) (
 ∃ x2, lS H3 (aZ H) x2 /\ (
 0 <= (x2.n : Int) /\ (x2.n : Int) <= (x2.n : Int) /\ (x2.n : Int) * ((8 : Nat) : Int) <= 281474976710656 /\ (
 letH (H3.push (.cells (zeroRow (vO) (x2.n : Int).toNat) t_3 (0, 0))) (fun H5 =>
 ∃ I_ : Int -> HP, ∃ M_ : Int -> HN, I_ (0 : Int) H5 /\ (∀ x3 : Int, ∀ H6 : Heap, I_ x3 H6 -> F_103_r2 R H free H1 H3 x2 I_ M_ x3 H6))))))))))
theorem F_103_ok {R : VP} (free sizes : Sl) {H : Heap} (h : F_103 R free sizes H) : CallsH Tryz.prog n_103 #[vS free, vS sizes] H R := wpF_ok Tryz.func103 (show wpF Tryz.prog Tryz.f103 [(9, vN), (26, vI 0), (44, vI 0)] [] [(5, [26], [0, 3, 5, 7, 25]), (13, [9, 44], [0, 3, 5, 10, 42, 43])] [9] _ H R = F_103 R free sizes H by kernel_rfl) h
def F_104_r1 (R : VP) (a : Sl) (f : Int) (I_ : Sl -> Int -> HP) (M_ : Sl -> Int -> HN) (out : Sl) (i : Int) (H1 : Heap) : Prop :=
 iteB (decide (i < (a.n : Int))) (
 (xA i a (fun a1 =>
 ∃ x, lI H1 (a1.add (i.toNat * 5)) x /\ (
 iteB (x == f) (
 (xA i a (fun a2 =>
 ∃ x1, lI H1 (a2.add (i.toNat * 5)) x1 /\ ∃ x2, lI H1 ((a2.add (i.toNat * 5)).add 1) x2 /\ ∃ x3, lI H1 ((a2.add (i.toNat * 5)).add 2) x3 /\ ∃ x4, lI H1 ((a2.add (i.toNat * 5)).add 3) x4 /\ ∃ x5, lU H1 ((a2.add (i.toNat * 5)).add 4) x5 /\ (
 letH (H1.push (.cells #[vI x1, vI x2, vI x3, vI x4, vU x5] t_32 (0, 0))) (fun H2 =>
 runH Tryz.prog (Builtin.append_ #[t_33, t_33] t_33 #[vS out, .slice (some (aZ H1)) 1 1]) H2 (fun v H3 =>
 ∃ out1 : Sl, v = vS out1 /\ (
 letV (i64.wrap (i + (1 : Int))) (fun i1 =>
 I_ out1 i1 H3 /\ M_ out1 i1 H3 < M_ out i H1)))))))) (
 letV (i64.wrap (i + (1 : Int))) (fun i2 =>
 I_ out i2 H1 /\ M_ out i2 H1 < M_ out i H1)))))) (
 R (vS out) H1)
def F_104 (R : VP) (a : Sl) (f : Int) (H : Heap) : Prop :=
 ∃ I_ : Sl -> Int -> HP, ∃ M_ : Sl -> Int -> HN, I_ (Sl.mk none 0 0) (0 : Int) H /\ (∀ out : Sl, ∀ i : Int, ∀ H1 : Heap, I_ out i H1 -> F_104_r1 R a f I_ M_ out i H1)
theorem F_104_ok {R : VP} (a : Sl) (f : Int) {H : Heap} (h : F_104 R a f H) : CallsH Tryz.prog n_104 #[vS a, vI f] H R := wpF_ok Tryz.func104 (show wpF Tryz.prog Tryz.f104 [(5, vN), (6, vI 0)] [] [(3, [5, 6], [0, 1])] [9] _ H R = F_104 R a f H by kernel_rfl) h
def F_105 (R : VP) (bridge : Bool) (H : Heap) : Prop :=
 iteB bridge (
 R (vI (2 : Int)) H) (
 R (vI (6 : Int)) H)
theorem F_105_ok {R : VP} (bridge : Bool) {H : Heap} (h : F_105 R bridge H) : CallsH Tryz.prog n_105 #[.bool bridge] H R := wpF_ok Tryz.func105 (show wpF Tryz.prog Tryz.f105 [] [] [] [9] _ H R = F_105 R bridge H by kernel_rfl) h
def F_106_k1 (R : VP) (l : Sl) (i size : Int) (x1 : Bool) (H1 : Heap) : Prop :=
 iteB x1 (
 iteB (decide (size >= (4 : Int))) (
 iteB (decide (size <= (40 : Int))) (
 iteB (decide ((i64.wrap (i + (1 : Int))) < (l.n : Int))) (
 0 <= (i64.wrap (i + (1 : Int))) /\ (i64.wrap (i + (1 : Int))) < (l.n : Int) /\ (unSome l.p (fun a2 =>
 ∃ x2 : Int, rd H1 (a2.add ((i64.wrap (i + (1 : Int))).toNat * 2)) = some (vI x2) /\ (
 R (.bool (x2 == (0 : Int))) H1)))) (
 R (.bool false) H1)) (
 R (.bool false) H1)) (
 R (.bool false) H1)) (
 R (.bool false) H1)
def F_106 (R : VP) (l : Sl) (i : Int) (H : Heap) : Prop :=
 (xA i l (fun a =>
 ∃ size, lI H ((a.add (i.toNat * 2)).add 1) size /\ (
 (xA i l (fun a1 =>
 ∃ x, lI H (a1.add (i.toNat * 2)) x /\ (
 iteB (x == (0 : Int)) (
 R (.bool (size == (0 : Int))) H) (
 iteB (x == (1 : Int)) (
 iteB (decide (size >= (2 : Int))) (
 R (.bool (decide (size <= (8 : Int)))) H) (
 R (.bool false) H)) (
 iteB (x == (2 : Int)) (
 iteB (decide (size >= (4 : Int))) (
 R (.bool (decide (size <= (31 : Int)))) H) (
 R (.bool false) H)) (
 ∃ J_ : Bool -> HP, (
 iteB (x == (3 : Int)) (
 J_ true H) (
 J_ (x == (4 : Int)) H)) /\ (∀ x1 : Bool, ∀ H1 : Heap, J_ x1 H1 -> F_106_k1 R l i size x1 H1))))))))))
theorem F_106_ok {R : VP} (l : Sl) (i : Int) {H : Heap} (h : F_106 R l i H) : CallsH Tryz.prog n_106 #[vS l, vI i] H R := wpF_ok Tryz.func106 (show wpF Tryz.prog Tryz.f106 [(36, .bool false)] [(11, [36], [0, 1, 5])] [] [9] _ H R = F_106 R l i H by kernel_rfl) h
def F_107 (R : VP) (f_0 f_1 f_2 f_3 : Int) (f_4 f_5 f_6 : Bool) (f_7 f_8 f_9 : Int) (f_10 : Sl) (H : Heap) : Prop :=
 letH (H.push (.cells #[vI f_0, vI f_1, vI f_2, vI f_3, .bool f_4, .bool f_5, .bool f_6, vI f_7, vI f_8, vI f_9, vS f_10] t_58 (0, 0))) (fun H1 =>
 ∃ x, lB H1 (aP H 4) x /\ (
 iteB x (
 R (vI (2 : Int)) H1) (
 R (vI (6 : Int)) H1)))
theorem F_107_ok {R : VP} (f_0 f_1 f_2 f_3 : Int) (f_4 f_5 f_6 : Bool) (f_7 f_8 f_9 : Int) (f_10 : Sl) {H : Heap} (h : F_107 R f_0 f_1 f_2 f_3 f_4 f_5 f_6 f_7 f_8 f_9 f_10 H) : CallsH Tryz.prog n_107 #[.agg #[vI f_0, vI f_1, vI f_2, vI f_3, .bool f_4, .bool f_5, .bool f_6, vI f_7, vI f_8, vI f_9, vS f_10]] H R := wpF_ok Tryz.func107 (show wpF Tryz.prog Tryz.f107 [] [] [] [9] _ H R = F_107 R f_0 f_1 f_2 f_3 f_4 f_5 f_6 f_7 f_8 f_9 f_10 H by kernel_rfl) h
def F_108 (R : VP) (s : Sl) (H : Heap) : Prop :=
 iteB s.p.isNone (
 R (vN) H) (
 letH (H.push (.cells #[] t_95 (0, 0))) (fun H1 =>
 runH Tryz.prog (Builtin.append_ #[t_23, t_23] t_23 #[.slice (some (aZ H)) 0 0, vS s]) H1 (fun v H2 =>
 ∃ x : Sl, v = vS x /\ (
 R (vS x) H2))))
theorem F_108_ok {R : VP} (s : Sl) {H : Heap} (h : F_108 R s H) : CallsH Tryz.prog n_108 #[vS s] H R := wpF_ok Tryz.func108 (show wpF Tryz.prog Tryz.f108 [] [] [] [9] _ H R = F_108 R s H by kernel_rfl) h
def F_112_r1 (R : VP) (sizes : Sl) (I_ : Int -> HP) (M_ : Int -> HN) (i : Int) (H1 : Heap) : Prop :=
 iteB (decide (i < (sizes.n : Int))) (
 (xA i sizes (fun a =>
 ∃ x, lI H1 (a.add (i.toNat * 1)) x /\ (
 iteB (decide (x < (0 : Int))) (
 R (.bool false) H1) (
 (xA i sizes (fun a1 =>
 ∃ x1, lI H1 (a1.add (i.toNat * 1)) x1 /\ (
 iteB (decide (x1 > (44 : Int))) (
 R (.bool false) H1) (
 letV (i64.wrap (i + (1 : Int))) (fun i1 =>
 I_ i1 H1 /\ M_ i1 H1 < M_ i H1)))))))))) (
 R (.bool true) H1)
def F_112 (R : VP) (sizes : Sl) (H : Heap) : Prop :=
 iteB (decide ((sizes.n : Int) > (1024 : Int))) (
 R (.bool false) H) (
 ∃ I_ : Int -> HP, ∃ M_ : Int -> HN, I_ (0 : Int) H /\ (∀ i : Int, ∀ H1 : Heap, I_ i H1 -> F_112_r1 R sizes I_ M_ i H1))
theorem F_112_ok {R : VP} (sizes : Sl) {H : Heap} (h : F_112 R sizes H) : CallsH Tryz.prog n_112 #[vS sizes] H R := wpF_ok Tryz.func112 (show wpF Tryz.prog Tryz.f112 [(3, vI 0)] [] [(4, [3], [0])] [9] _ H R = F_112 R sizes H by kernel_rfl) h
def F_113 (R : VP) (a k : Int) (H : Heap) : Prop :=
 0 <= (u64.wrap k) /\ (
 0 <= (u64.wrap k) /\ (
 0 <= (u64.wrap k) /\ (
 letV (u64.wrap (((u64.wrap ((u64.wrap (a + (u64.wrap ((1 : Int) * 2 ^ (min (u64.wrap k).toNat IntKind.u64.bits))))) - (1 : Int))).fdiv (2 ^ (min (u64.wrap k).toNat IntKind.u64.bits))) * 2 ^ (min (u64.wrap k).toNat IntKind.u64.bits))) (fun x =>
 R (vU x) H))))
theorem F_113_ok {R : VP} (a k : Int) {H : Heap} (h : F_113 R a k H) : CallsH Tryz.prog n_113 #[vU a, vI k] H R := wpF_ok Tryz.func113 (show wpF Tryz.prog Tryz.f113 [] [] [] [9] _ H R = F_113 R a k H by kernel_rfl) h
def F_114_r1 (R : VP) (H : Heap) (free sizes : Sl) (I_ : Int -> HP) (M_ : Int -> HN) (k : Int) (H2 : Heap) : Prop :=
 iteB (decide (k >= (0 : Int))) (
 CallsH Tryz.prog n_124 #[vS sizes, vI k] H2 (fun v H3 =>
 ∃ n : Int, v = vU n /\ (
 CallsH Tryz.prog n_125 #[vS free, vI k] H3 (fun v1 H4 =>
 ∃ b : Int, v1 = vU b /\ (
 0 <= (u64.wrap k) /\ (
 iteB (decide (n > (u64.wrap (b * 2 ^ (min (u64.wrap k).toNat IntKind.u64.bits))))) (
 okRow H4 (aZ H) 4 /\ (
 letH (wrs H4 (aZ H) [vO, vI k, vU n, vU b]) (fun H5 =>
 ∃ r, lI H5 (aZ H) r /\ ∃ r1, lI H5 (aP H 1) r1 /\ ∃ r2, lU H5 (aP H 2) r2 /\ ∃ r3, lU H5 (aP H 3) r3 /\ (
 R (.agg #[vI r, vI r1, vU r2, vU r3]) H5)))) (
 letV (i64.wrap (k - (1 : Int))) (fun k1 =>
 I_ k1 H4 /\ M_ k1 H4 < M_ k H2)))))))) (
 okRow H2 (aZ H) 4 /\ (
 letH (wrs H2 (aZ H) [vO, vO, vU (0 : Int), vU (0 : Int)]) (fun H6 =>
 ∃ r4, lI H6 (aZ H) r4 /\ ∃ r5, lI H6 (aP H 1) r5 /\ ∃ r6, lU H6 (aP H 2) r6 /\ ∃ r7, lU H6 (aP H 3) r7 /\ (
 R (.agg #[vI r4, vI r5, vU r6, vU r7]) H6))))
def F_114 (R : VP) (free sizes : Sl) (H : Heap) : Prop :=
 letH (H.push (.cells #[vO, vO, vU (0 : Int), vU (0 : Int)] t_39 (0, 0))) (fun H1 =>
 ∃ I_ : Int -> HP, ∃ M_ : Int -> HN, I_ (44 : Int) H1 /\ (∀ k : Int, ∀ H2 : Heap, I_ k H2 -> F_114_r1 R H free sizes I_ M_ k H2))
theorem F_114_ok {R : VP} (free sizes : Sl) {H : Heap} (h : F_114 R free sizes H) : CallsH Tryz.prog n_114 #[vS free, vS sizes] H R := wpF_ok Tryz.func114 (show wpF Tryz.prog Tryz.f114 [(5, vI 0)] [] [(2, [5], [0, 1, 4])] [9] _ H R = F_114 R free sizes H by kernel_rfl) h
def F_115_k1 (R : VP) (x6 n4 : Int) (H3 : Heap) : Prop :=
 0 <= (u8.wrap x6) /\ (u8.wrap x6) < (cstr_0.size : Int) /\ (
 letV (i64.wrap (n4 + (i64.wrap (cstr_0[(u8.wrap x6).toNat]!.toNat : Int)))) (fun n5 =>
 R (vI n5) H3))
def F_115_k2 (R : VP) (x4 n2 : Int) (H2 : Heap) : Prop :=
 ∃ J_2 : Int -> Int -> HP, (
 iteB (decide (x4 >= (256 : Int))) (
 0 <= (8 : Int) /\ (
 letV (x4.fdiv (2 ^ (min (8 : Int).toNat IntKind.u64.bits))) (fun x5 =>
 letV (i64.wrap (n2 + (8 : Int))) (fun n3 =>
 J_2 x5 n3 H2)))) (
 J_2 x4 n2 H2)) /\ (∀ x6 n4 : Int, ∀ H3 : Heap, J_2 x6 n4 H3 -> F_115_k1 R x6 n4 H3)
def F_115_k3 (R : VP) (x2 n : Int) (H1 : Heap) : Prop :=
 ∃ J_1 : Int -> Int -> HP, (
 iteB (decide (x2 >= (65536 : Int))) (
 0 <= (16 : Int) /\ (
 letV (x2.fdiv (2 ^ (min (16 : Int).toNat IntKind.u64.bits))) (fun x3 =>
 letV (i64.wrap (n + (16 : Int))) (fun n1 =>
 J_1 x3 n1 H1)))) (
 J_1 x2 n H1)) /\ (∀ x4 n2 : Int, ∀ H2 : Heap, J_1 x4 n2 H2 -> F_115_k2 R x4 n2 H2)
def F_115 (R : VP) (x : Int) (H : Heap) : Prop :=
 ∃ J_ : Int -> Int -> HP, (
 iteB (decide (x >= (4294967296 : Int))) (
 0 <= (32 : Int) /\ (
 letV (x.fdiv (2 ^ (min (32 : Int).toNat IntKind.u64.bits))) (fun x1 =>
 J_ x1 (32 : Int) H))) (
 J_ x (0 : Int) H)) /\ (∀ x2 n : Int, ∀ H1 : Heap, J_ x2 n H1 -> F_115_k3 R x2 n H1)
theorem F_115_ok {R : VP} (x : Int) {H : Heap} (h : F_115 R x H) : CallsH Tryz.prog n_115 #[vU x] H R := wpF_ok Tryz.func115 (show wpF Tryz.prog Tryz.f115 [(0, vU 0), (2, vI 0)] [(4, [0, 2], []), (7, [0, 2], []), (10, [0, 2], [])] [] [9] _ H R = F_115 R x H by kernel_rfl) h
def F_116 (R : VP) (x : Sl) (cap : Addr) (H : Heap) : Prop :=
 CallsH Tryz.prog n_126 #[vS x, vI (x.n : Int), .func (.func 117) #[] #[.pointer (some cap)]] H (fun v H1 =>
 v = .tuple #[] /\ (
 R (.tuple #[]) H1))
theorem F_116_ok {R : VP} (x : Sl) (cap : Addr) {H : Heap} (h : F_116 R x cap H) : CallsH Tryz.prog n_116 #[vS x, .func (.func 117) #[] #[.pointer (some cap)]] H R := wpF_ok Tryz.func116 (show wpF Tryz.prog Tryz.f116 [] [] [] [9] _ H R = F_116 R x cap H by kernel_rfl) h
def F_117 (R : VP) (a b : Int) (cap0 : Addr) (H : Heap) : Prop :=
 ∃ x, lS H cap0 x /\ (
 (xA b x (fun a1 =>
 ∃ x1, lI H (a1.add (b.toNat * 1)) x1 /\ (
 ∃ x2, lS H cap0 x2 /\ (
 (xA a x2 (fun a2 =>
 ∃ x3, lI H (a2.add (a.toNat * 1)) x3 /\ (
 CallsH Tryz.prog n_118 #[vI x1, vI x3] H (fun v H1 =>
 ∃ x4 : Int, v = vI x4 /\ (
 R (vI x4) H1))))))))))
theorem F_117_ok {R : VP} (a b : Int) (cap0 : Addr) {H : Heap} (h : F_117 R a b cap0 H) : CallsH Tryz.prog n_117 #[vI a, vI b, .pointer (some cap0)] H R := wpF_ok Tryz.func117 (show wpF Tryz.prog Tryz.f117 [] [] [] [9] _ H R = F_117 R a b cap0 H by kernel_rfl) h
def F_118 (R : VP) (x y : Int) (H : Heap) : Prop :=
 CallsH Tryz.prog n_127 #[vI x] H (fun v H1 =>
 ∃ xNaN : Bool, v = .bool xNaN /\ (
 CallsH Tryz.prog n_127 #[vI y] H1 (fun v1 H2 =>
 ∃ yNaN : Bool, v1 = .bool yNaN /\ (
 iteB xNaN (
 iteB yNaN (
 R (vO) H2) (
 R (vI (-1 : Int)) H2)) (
 iteB yNaN (
 R (vI (1 : Int)) H2) (
 iteB (decide (x < y)) (
 R (vI (-1 : Int)) H2) (
 iteB (decide (x > y)) (
 R (vI (1 : Int)) H2) (
 R (vO) H2))))))))
theorem F_118_ok {R : VP} (x y : Int) {H : Heap} (h : F_118 R x y H) : CallsH Tryz.prog n_118 #[vI x, vI y] H R := wpF_ok Tryz.func118 (show wpF Tryz.prog Tryz.f118 [] [] [] [9] _ H R = F_118 R x y H by kernel_rfl) h
def F_119_k1 (R : VP) (l : Sl) (x base : Int) (parts3 : Sl) (H9 : Heap) : Prop :=
 CallsH Tryz.prog n_128 #[vS l, vI x, vI (i64.wrap (x + (1 : Int))), vS parts3] H9 (fun v2 H10 =>
 ∃ x9 : Sl, v2 = vS x9 /\ (
 R (.tuple #[vU base, vS x9, .bool true]) H10))
def F_119_k2 (R : VP) (l : Sl) (size x base endv : Int) (parts1 : Sl) (H6 : Heap) : Prop :=
 ∃ J_1 : Sl -> HP, (
 iteB (decide ((u64.wrap (base + size)) < endv)) (
 letH (H6.push (.cells #[vU (u64.wrap (base + size)), vU (u64.wrap ((u64.wrap (endv - base)) - size))] t_95 (0, 0))) (fun H7 =>
 runH Tryz.prog (Builtin.append_ #[t_23, t_23] t_23 #[vS parts1, .slice (some (aZ H6)) 1 1]) H7 (fun v1 H8 =>
 ∃ parts2 : Sl, v1 = vS parts2 /\ (
 J_1 parts2 H8)))) (
 J_1 parts1 H6)) /\ (∀ parts3 : Sl, ∀ H9 : Heap, J_1 parts3 H9 -> F_119_k1 R l x base parts3 H9)
def F_119_r3 (R : VP) (l : Sl) (k size : Int) (I_ : Int -> HP) (M_ : Int -> HN) (x : Int) (H1 : Heap) : Prop :=
 iteB (decide (x < (l.n : Int))) (
 (xA x l (fun a =>
 ∃ x1, lU H1 (a.add (x.toNat * 2)) x1 /\ ∃ x2, lU H1 ((a.add (x.toNat * 2)).add 1) x2 /\ (
 letH (H1.push (.cells #[vU (0 : Int), vU (0 : Int)] t_95 (0, 0))) (fun H2 =>
 okRow H2 (aZ H1) 2 /\ (
 letH (wrs H2 (aZ H1) [vU x1, vU x2]) (fun H3 =>
 ∃ x3, lU H3 (aZ H1) x3 /\ (
 0 <= k /\ (
 0 <= k /\ (
 letV (u64.wrap (((u64.wrap ((u64.wrap (x3 + size)) - (1 : Int))).fdiv (2 ^ (min k.toNat IntKind.u64.bits))) * 2 ^ (min k.toNat IntKind.u64.bits))) (fun base =>
 ∃ x4, lU H3 (aZ H1) x4 /\ (
 ∃ x5, lU H3 (aP H1 1) x5 /\ (
 letV (u64.wrap (x4 + x5)) (fun endv =>
 iteB (decide (base >= endv)) (
 I_ (i64.wrap (x + (1 : Int))) H3 /\ M_ (i64.wrap (x + (1 : Int))) H3 < M_ x H1) (
 iteB (decide ((u64.wrap (endv - base)) < size)) (
 I_ (i64.wrap (x + (1 : Int))) H3 /\ M_ (i64.wrap (x + (1 : Int))) H3 < M_ x H1) (
 ∃ J_ : Sl -> HP, (
 ∃ x6, lU H3 (aZ H1) x6 /\ (
 iteB (decide (base > x6)) (
 ∃ x7, lU H3 (aZ H1) x7 /\ (
 ∃ x8, lU H3 (aZ H1) x8 /\ (
 letH (H3.push (.cells #[vU x7, vU (u64.wrap (base - x8))] t_95 (0, 0))) (fun H4 =>
 runH Tryz.prog (Builtin.append_ #[t_23, t_23] t_23 #[vN, .slice (some (aZ H3)) 1 1]) H4 (fun v H5 =>
 ∃ parts : Sl, v = vS parts /\ (
 J_ parts H5)))))) (
 J_ (Sl.mk none 0 0) H3))) /\ (∀ parts1 : Sl, ∀ H6 : Heap, J_ parts1 H6 -> F_119_k2 R l size x base endv parts1 H6))))))))))))))))) (
 R (.tuple #[vU (0 : Int), vS l, .bool false]) H1)
def F_119 (R : VP) (l : Sl) (k : Int) (H : Heap) : Prop :=
 0 <= k /\ (
 letV (u64.wrap ((1 : Int) * 2 ^ (min k.toNat IntKind.u64.bits))) (fun size =>
 ∃ I_ : Int -> HP, ∃ M_ : Int -> HN, I_ (0 : Int) H /\ (∀ x : Int, ∀ H1 : Heap, I_ x H1 -> F_119_r3 R l k size I_ M_ x H1)))
theorem F_119_ok {R : VP} (l : Sl) (k : Int) {H : Heap} (h : F_119 R l k H) : CallsH Tryz.prog n_119 #[vS l, vI k] H R := wpF_ok Tryz.func119 (show wpF Tryz.prog Tryz.f119 [(12, vN), (17, vI 0)] [(11, [12], [0, 7, 8, 10, 11]), (13, [12], [0, 8, 10])] [(3, [17], [0, 1, 7, 15, 16])] [9] _ H R = F_119 R l k H by kernel_rfl) h
def F_120_r1 (R : VP) (H : Heap) (l sizes : Sl) (I_ : Int -> HP) (M_ : Int -> HN) (k : Int) (H2 : Heap) : Prop :=
 iteB (decide (k >= (0 : Int))) (
 CallsH Tryz.prog n_56 #[vS sizes, vI k] H2 (fun v H3 =>
 ∃ need : Int, v = vU need /\ (
 CallsH Tryz.prog n_90 #[vS l, vI k] H3 (fun v1 H4 =>
 ∃ blocks : Int, v1 = vU blocks /\ (
 0 <= k /\ (
 iteB (decide (need > (u64.wrap (blocks * 2 ^ (min k.toNat IntKind.u64.bits))))) (
 okRow H4 (aZ H) 4 /\ (
 letH (wrs H4 (aZ H) [vO, vI k, vU need, vU blocks]) (fun H5 =>
 ∃ r, lI H5 (aZ H) r /\ ∃ r1, lI H5 (aP H 1) r1 /\ ∃ r2, lU H5 (aP H 2) r2 /\ ∃ r3, lU H5 (aP H 3) r3 /\ (
 R (.agg #[vI r, vI r1, vU r2, vU r3]) H5)))) (
 letV (i64.wrap (k - (1 : Int))) (fun k1 =>
 I_ k1 H4 /\ M_ k1 H4 < M_ k H2)))))))) (
 okRow H2 (aZ H) 4 /\ (
 letH (wrs H2 (aZ H) [vO, vO, vU (0 : Int), vU (0 : Int)]) (fun H6 =>
 ∃ r4, lI H6 (aZ H) r4 /\ ∃ r5, lI H6 (aP H 1) r5 /\ ∃ r6, lU H6 (aP H 2) r6 /\ ∃ r7, lU H6 (aP H 3) r7 /\ (
 R (.agg #[vI r4, vI r5, vU r6, vU r7]) H6))))
def F_120 (R : VP) (l sizes : Sl) (H : Heap) : Prop :=
 letH (H.push (.cells #[vO, vO, vU (0 : Int), vU (0 : Int)] t_39 (0, 0))) (fun H1 =>
 ∃ I_ : Int -> HP, ∃ M_ : Int -> HN, I_ (52 : Int) H1 /\ (∀ k : Int, ∀ H2 : Heap, I_ k H2 -> F_120_r1 R H l sizes I_ M_ k H2))
theorem F_120_ok {R : VP} (l sizes : Sl) {H : Heap} (h : F_120 R l sizes H) : CallsH Tryz.prog n_120 #[vS l, vS sizes] H R := wpF_ok Tryz.func120 (show wpF Tryz.prog Tryz.f120 [(5, vI 0)] [] [(2, [5], [0, 1, 4])] [9] _ H R = F_120 R l sizes H by kernel_rfl) h
def F_124_r1 (R : VP) (sizes : Sl) (k : Int) (I_ : Int -> Int -> HP) (M_ : Int -> Int -> HN) (n i : Int) (H1 : Heap) : Prop :=
 iteB (decide (i < (sizes.n : Int))) (
 (xA i sizes (fun a =>
 ∃ x, lI H1 (a.add (i.toNat * 1)) x /\ (
 iteB (decide (x >= k)) (
 (xA i sizes (fun a1 =>
 ∃ x1, lI H1 (a1.add (i.toNat * 1)) x1 /\ (
 0 <= (u64.wrap x1) /\ (
 letV (u64.wrap (n + (u64.wrap ((1 : Int) * 2 ^ (min (u64.wrap x1).toNat IntKind.u64.bits))))) (fun n1 =>
 letV (i64.wrap (i + (1 : Int))) (fun i1 =>
 I_ n1 i1 H1 /\ M_ n1 i1 H1 < M_ n i H1))))))) (
 letV (i64.wrap (i + (1 : Int))) (fun i2 =>
 I_ n i2 H1 /\ M_ n i2 H1 < M_ n i H1)))))) (
 R (vU n) H1)
def F_124 (R : VP) (sizes : Sl) (k : Int) (H : Heap) : Prop :=
 ∃ I_ : Int -> Int -> HP, ∃ M_ : Int -> Int -> HN, I_ (0 : Int) (0 : Int) H /\ (∀ n i : Int, ∀ H1 : Heap, I_ n i H1 -> F_124_r1 R sizes k I_ M_ n i H1)
theorem F_124_ok {R : VP} (sizes : Sl) (k : Int) {H : Heap} (h : F_124 R sizes k H) : CallsH Tryz.prog n_124 #[vS sizes, vI k] H R := wpF_ok Tryz.func124 (show wpF Tryz.prog Tryz.f124 [(5, vU 0), (6, vI 0)] [] [(3, [5, 6], [0, 1])] [9] _ H R = F_124 R sizes k H by kernel_rfl) h
def F_125_r1 (R : VP) (k : Int) (l : Sl) (I_ : Int -> Int -> HP) (M_ : Int -> Int -> HN) (n i : Int) (H3 : Heap) : Prop :=
 iteB (decide (i < (l.n : Int))) (
 (xA i l (fun a =>
 ∃ x1, lU H3 (a.add (i.toNat * 2)) x1 /\ (
 (xA i l (fun a1 =>
 ∃ x2, lU H3 (a1.add (i.toNat * 2)) x2 /\ (
 (xA i l (fun a2 =>
 ∃ x3, lU H3 ((a2.add (i.toNat * 2)).add 1) x3 /\ (
 CallsH Tryz.prog n_113 #[vU x1, vI k] H3 (fun v2 H4 =>
 ∃ atv : Int, v2 = vU atv /\ (
 Keeps H3 H4 [((a1.add (i.toNat * 2)), 1), (((a2.add (i.toNat * 2)).add 1), 1)] /\ (
 letV (u64.wrap (x2 + x3)) (fun endv =>
 iteB (decide (atv < endv)) (
 0 <= (u64.wrap k) /\ (
 letV (u64.wrap (n + ((u64.wrap (endv - atv)).fdiv (2 ^ (min (u64.wrap k).toNat IntKind.u64.bits))))) (fun n1 =>
 letV (i64.wrap (i + (1 : Int))) (fun i1 =>
 I_ n1 i1 H4 /\ M_ n1 i1 H4 < M_ n i H3)))) (
 letV (i64.wrap (i + (1 : Int))) (fun i2 =>
 I_ n i2 H4 /\ M_ n i2 H4 < M_ n i H3)))))))))))))))) (
 R (vU n) H3)
def F_125 (R : VP) (free : Sl) (k : Int) (H : Heap) : Prop :=
 iteB (decide (k < (0 : Int))) (
 R (vU (0 : Int)) H) (
 iteB (decide (k > (52 : Int))) (
 R (vU (0 : Int)) H) (
 CallsH Tryz.prog n_92 #[vS free] H (fun v H1 =>
 ∃ x : Bool, v = .bool x /\ (
 iteB (!x) (
 R (vU (0 : Int)) H1) (
 CallsH Tryz.prog n_93 #[vS free] H1 (fun v1 H2 =>
 ∃ l : Sl, v1 = vS l /\ (
 ∃ I_ : Int -> Int -> HP, ∃ M_ : Int -> Int -> HN, I_ (0 : Int) (0 : Int) H2 /\ (∀ n i : Int, ∀ H3 : Heap, I_ n i H3 -> F_125_r1 R k l I_ M_ n i H3))))))))
theorem F_125_ok {R : VP} (free : Sl) (k : Int) {H : Heap} (h : F_125 R free k H) : CallsH Tryz.prog n_125 #[vS free, vI k] H R := wpF_ok Tryz.func125 (show wpF Tryz.prog Tryz.f125 [(5, vU 0), (7, vI 0)] [] [(6, [5, 7], [1, 6])] [9] _ H R = F_125 R free k H by kernel_rfl) h
def F_126_r1 (data : Sl) (n : Int) (cap : Addr) (I_1 : Int -> HP) (M_1 : Int -> HN) (blockSize : Int) (H4 : Heap) (I_2 : Int -> Int -> HP) (M_2 : Int -> Int -> HN) (a1 b3 : Int) (H5 : Heap) : Prop :=
 iteB (decide (b3 <= n)) (
 CallsH Tryz.prog n_139 #[vS data, vI a1, vI (i64.wrap (a1 + blockSize)), vI b3, .func (.func 117) #[] #[.pointer (some cap)]] H5 (fun v2 H6 =>
 v2 = .tuple #[] /\ (
 letV (i64.wrap (b3 + (i64.wrap ((2 : Int) * blockSize)))) (fun b4 =>
 I_2 b3 b4 H6 /\ M_2 b3 b4 H6 < M_2 a1 b3 H5)))) (
 letV (i64.wrap (a1 + blockSize)) (fun m =>
 iteB (decide (m < n)) (
 CallsH Tryz.prog n_139 #[vS data, vI a1, vI m, vI n, .func (.func 117) #[] #[.pointer (some cap)]] H5 (fun v3 H7 =>
 v3 = .tuple #[] /\ (
 letV (i64.wrap (blockSize * (2 : Int))) (fun blockSize1 =>
 I_1 blockSize1 H7 /\ M_1 blockSize1 H7 < M_1 blockSize H4)))) (
 letV (i64.wrap (blockSize * (2 : Int))) (fun blockSize2 =>
 I_1 blockSize2 H5 /\ M_1 blockSize2 H5 < M_1 blockSize H4))))
def F_126_r2 (R : VP) (data : Sl) (n : Int) (cap : Addr) (I_1 : Int -> HP) (M_1 : Int -> HN) (blockSize : Int) (H4 : Heap) : Prop :=
 iteB (decide (blockSize < n)) (
 letV (i64.wrap ((2 : Int) * blockSize)) (fun b2 =>
 ∃ I_2 : Int -> Int -> HP, ∃ M_2 : Int -> Int -> HN, I_2 (0 : Int) b2 H4 /\ (∀ a1 b3 : Int, ∀ H5 : Heap, I_2 a1 b3 H5 -> F_126_r1 data n cap I_1 M_1 blockSize H4 I_2 M_2 a1 b3 H5))) (
 R (.tuple #[]) H4)
def F_126_r3 (R : VP) (data : Sl) (n : Int) (cap : Addr) (I_ : Int -> Int -> HP) (M_ : Int -> Int -> HN) (a b : Int) (H1 : Heap) : Prop :=
 iteB (decide (b <= n)) (
 CallsH Tryz.prog n_138 #[vS data, vI a, vI b, .func (.func 117) #[] #[.pointer (some cap)]] H1 (fun v H2 =>
 v = .tuple #[] /\ (
 letV (i64.wrap (b + (20 : Int))) (fun b1 =>
 I_ b b1 H2 /\ M_ b b1 H2 < M_ a b H1)))) (
 CallsH Tryz.prog n_138 #[vS data, vI a, vI n, .func (.func 117) #[] #[.pointer (some cap)]] H1 (fun v1 H3 =>
 v1 = .tuple #[] /\ (
 ∃ I_1 : Int -> HP, ∃ M_1 : Int -> HN, I_1 (20 : Int) H3 /\ (∀ blockSize : Int, ∀ H4 : Heap, I_1 blockSize H4 -> F_126_r2 R data n cap I_1 M_1 blockSize H4))))
def F_126 (R : VP) (data : Sl) (n : Int) (cap : Addr) (H : Heap) : Prop :=
 ∃ I_ : Int -> Int -> HP, ∃ M_ : Int -> Int -> HN, I_ (0 : Int) (20 : Int) H /\ (∀ a b : Int, ∀ H1 : Heap, I_ a b H1 -> F_126_r3 R data n cap I_ M_ a b H1)
theorem F_126_ok {R : VP} (data : Sl) (n : Int) (cap : Addr) {H : Heap} (h : F_126 R data n cap H) : CallsH Tryz.prog n_126 #[vS data, vI n, .func (.func 117) #[] #[.pointer (some cap)]] H R := wpF_ok Tryz.func126 (show wpF Tryz.prog Tryz.f126 [(6, vI 0), (7, vI 0), (8, vI 0)] [] [(2, [7, 8], [0, 1, 2, 6]), (7, [6], [0, 1, 2]), (9, [7, 8], [0, 1, 2, 6])] [9] _ H R = F_126 R data n cap H by kernel_rfl) h
def F_127 (R : VP) (x : Int) (H : Heap) : Prop :=
 R (.bool (x != x)) H
theorem F_127_ok {R : VP} (x : Int) {H : Heap} (h : F_127 R x H) : CallsH Tryz.prog n_127 #[vI x] H R := wpF_ok Tryz.func127 (show wpF Tryz.prog Tryz.f127 [] [] [] [9] _ H R = F_127 R x H by kernel_rfl) h
def F_128 (R : Value -> Heap -> Prop) (s : Sl) (i : Int) (j : Int) (v : Sl) (H : Heap) : Prop :=
 0 <= j /\ j <= (s.c : Int) /\ (
 0 <= i /\ i <= (j.toNat : Int) /\ (
 iteB (i == j) (
 CallsH Tryz.prog n_140 #[.slice s.p s.n s.c, .int .i64 i, .slice v.p v.n v.c] H (fun v1 H1 =>
 ∃ x : Sl, v1 = .slice x.p x.n x.c /\ (
 R (.slice x.p x.n x.c) H1))) (
 iteB (j == (s.n : Int)) (
 0 <= i /\ i <= (s.c : Int) /\ (
 runH Tryz.prog (Builtin.append_ #[t_23, t_23] t_23 #[.slice (slP s.p s.c 0 2) (i.toNat - 0) (s.c - 0), .slice v.p v.n v.c]) H (fun v2 H2 =>
 ∃ s2 : Sl, v2 = .slice s2.p s2.n s2.c /\ (
 iteB (decide ((s2.n : Int) < (s.n : Int))) (
 0 <= (s2.n : Int) /\ (s2.n : Int) <= (s.n : Int) /\ (
 runH Tryz.prog (Builtin.clear_ #[t_23] 0 #[.slice (slP s.p s.c ((s2.n : Int).toNat) 2) (s.n - (s2.n : Int).toNat) (s.c - (s2.n : Int).toNat)]) H2 (fun v3 H3 =>
 v3 = .tuple #[] /\ (
 R (.slice s2.p s2.n s2.c) H3)))) (
 R (.slice s2.p s2.n s2.c) H2))))) (
 0 <= i /\ i <= (s.c : Int) /\ (
 0 <= j /\ j <= (s.n : Int) /\ (
 letV (IntKind.i64.wrap ((IntKind.i64.wrap ((((i.toNat - 0) : Nat) : Int) + (v.n : Int))) + (((s.n - j.toNat) : Nat) : Int))) (fun tot : Int =>
 iteB (decide (tot > (s.c : Int))) (
 0 <= i /\ i <= (s.c : Int) /\ (
 runH Tryz.prog (Builtin.append_ #[t_23, t_3] t_23 #[.slice (slP s.p s.c 0 2) (i.toNat - 0) (s.c - 0), .int .i64 (IntKind.i64.wrap (tot - i))]) H (fun v4 H4 =>
 ∃ s21 : Sl, v4 = .slice s21.p s21.n s21.c /\ (
 0 <= i /\ i <= (s21.n : Int) /\ (
 runH Tryz.prog (Builtin.copy_ #[t_23, t_23] t_3 #[.slice (slP s21.p s21.c i.toNat 2) (s21.n - i.toNat) (s21.c - i.toNat), .slice v.p v.n v.c]) H4 (fun v5 H5 =>
 ∃ x1 : Int, v5 = .int .i64 x1 /\ (
 0 <= (IntKind.i64.wrap (i + (v.n : Int))) /\ (IntKind.i64.wrap (i + (v.n : Int))) <= (s21.n : Int) /\ (
 0 <= j /\ j <= (s.n : Int) /\ (
 runH Tryz.prog (Builtin.copy_ #[t_23, t_23] t_3 #[.slice (slP s21.p s21.c ((IntKind.i64.wrap (i + (v.n : Int))).toNat) 2) (s21.n - (IntKind.i64.wrap (i + (v.n : Int))).toNat) (s21.c - (IntKind.i64.wrap (i + (v.n : Int))).toNat), .slice (slP s.p s.c j.toNat 2) (s.n - j.toNat) (s.c - j.toNat)]) H5 (fun v6 H6 =>
 ∃ x2 : Int, v6 = .int .i64 x2 /\ (
 R (.slice s21.p s21.n s21.c) H6))))))))))) (
 0 <= tot /\ tot <= (s.c : Int) /\ (
 iteB (decide ((IntKind.i64.wrap (i + (v.n : Int))) <= j)) (
 0 <= i /\ i <= (((tot.toNat - 0) : Nat) : Int) /\ (
 runH Tryz.prog (Builtin.copy_ #[t_23, t_23] t_3 #[.slice (slP (slP s.p s.c 0 2) (s.c - 0) i.toNat 2) ((tot.toNat - 0) - i.toNat) ((s.c - 0) - i.toNat), .slice v.p v.n v.c]) H (fun v7 H7 =>
 ∃ x3 : Int, v7 = .int .i64 x3 /\ (
 0 <= (IntKind.i64.wrap (i + (v.n : Int))) /\ (IntKind.i64.wrap (i + (v.n : Int))) <= (((tot.toNat - 0) : Nat) : Int) /\ (
 0 <= j /\ j <= (s.n : Int) /\ (
 runH Tryz.prog (Builtin.copy_ #[t_23, t_23] t_3 #[.slice (slP (slP s.p s.c 0 2) (s.c - 0) ((IntKind.i64.wrap (i + (v.n : Int))).toNat) 2) ((tot.toNat - 0) - (IntKind.i64.wrap (i + (v.n : Int))).toNat) ((s.c - 0) - (IntKind.i64.wrap (i + (v.n : Int))).toNat), .slice (slP s.p s.c j.toNat 2) (s.n - j.toNat) (s.c - j.toNat)]) H7 (fun v8 H8 =>
 ∃ x4 : Int, v8 = .int .i64 x4 /\ (
 0 <= tot /\ tot <= (s.n : Int) /\ (
 runH Tryz.prog (Builtin.clear_ #[t_23] 0 #[.slice (slP s.p s.c tot.toNat 2) (s.n - tot.toNat) (s.c - tot.toNat)]) H8 (fun v9 H9 =>
 v9 = .tuple #[] /\ (
 R (.slice (slP s.p s.c 0 2) (tot.toNat - 0) (s.c - 0)) H9))))))))))) (
 0 <= (IntKind.i64.wrap (i + (v.n : Int))) /\ (IntKind.i64.wrap (i + (v.n : Int))) <= (((tot.toNat - 0) : Nat) : Int) /\ (
 runH Tryz.prog (callFunc n_141 #[.slice (slP (slP s.p s.c 0 2) (s.c - 0) ((IntKind.i64.wrap (i + (v.n : Int))).toNat) 2) ((tot.toNat - 0) - (IntKind.i64.wrap (i + (v.n : Int))).toNat) ((s.c - 0) - (IntKind.i64.wrap (i + (v.n : Int))).toNat), .slice v.p v.n v.c]) H (fun nx H10 => nextV nx (fun v10 =>
 ∃ x5 : Bool, v10 = .bool x5 /\ (
 iteB (!x5) (
 0 <= (IntKind.i64.wrap (i + (v.n : Int))) /\ (IntKind.i64.wrap (i + (v.n : Int))) <= (((tot.toNat - 0) : Nat) : Int) /\ (
 0 <= j /\ j <= (s.n : Int) /\ (
 runH Tryz.prog (Builtin.copy_ #[t_23, t_23] t_3 #[.slice (slP (slP s.p s.c 0 2) (s.c - 0) ((IntKind.i64.wrap (i + (v.n : Int))).toNat) 2) ((tot.toNat - 0) - (IntKind.i64.wrap (i + (v.n : Int))).toNat) ((s.c - 0) - (IntKind.i64.wrap (i + (v.n : Int))).toNat), .slice (slP s.p s.c j.toNat 2) (s.n - j.toNat) (s.c - j.toNat)]) H10 (fun v11 H11 =>
 ∃ x6 : Int, v11 = .int .i64 x6 /\ (
 0 <= i /\ i <= (((tot.toNat - 0) : Nat) : Int) /\ (
 runH Tryz.prog (Builtin.copy_ #[t_23, t_23] t_3 #[.slice (slP (slP s.p s.c 0 2) (s.c - 0) i.toNat 2) ((tot.toNat - 0) - i.toNat) ((s.c - 0) - i.toNat), .slice v.p v.n v.c]) H11 (fun v12 H12 =>
 ∃ x7 : Int, v12 = .int .i64 x7 /\ (
 R (.slice (slP s.p s.c 0 2) (tot.toNat - 0) (s.c - 0)) H12)))))))) (
 letV (IntKind.i64.wrap ((v.n : Int) - (IntKind.i64.wrap (j - i)))) (fun y : Int =>
 0 <= j /\ j <= (((s.c - 0) : Nat) : Int) /\ (
 0 <= i /\ i <= (j.toNat : Int) /\ (
 runH Tryz.prog (callFunc n_141 #[.slice (slP (slP s.p s.c 0 2) (s.c - 0) i.toNat 2) (j.toNat - i.toNat) ((s.c - 0) - i.toNat), .slice v.p v.n v.c]) H10 (fun nx1 H13 => nextV nx1 (fun v13 =>
 ∃ x8 : Bool, v13 = .bool x8 /\ (
 iteB (!x8) (
 0 <= j /\ j <= (((s.c - 0) : Nat) : Int) /\ (
 0 <= i /\ i <= (j.toNat : Int) /\ (
 0 <= y /\ y <= (v.n : Int) /\ (
 runH Tryz.prog (Builtin.copy_ #[t_23, t_23] t_3 #[.slice (slP (slP s.p s.c 0 2) (s.c - 0) i.toNat 2) (j.toNat - i.toNat) ((s.c - 0) - i.toNat), .slice (slP v.p v.c y.toNat 2) (v.n - y.toNat) (v.c - y.toNat)]) H13 (fun v14 H14 =>
 ∃ x9 : Int, v14 = .int .i64 x9 /\ (
 0 <= (s.n : Int) /\ (s.n : Int) <= (((tot.toNat - 0) : Nat) : Int) /\ (
 0 <= y /\ y <= (v.c : Int) /\ (
 runH Tryz.prog (Builtin.copy_ #[t_23, t_23] t_3 #[.slice (slP (slP s.p s.c 0 2) (s.c - 0) ((s.n : Int).toNat) 2) ((tot.toNat - 0) - (s.n : Int).toNat) ((s.c - 0) - (s.n : Int).toNat), .slice (slP v.p v.c 0 2) (y.toNat - 0) (v.c - 0)]) H14 (fun v15 H15 =>
 ∃ x10 : Int, v15 = .int .i64 x10 /\ (
 0 <= i /\ i <= (((tot.toNat - 0) : Nat) : Int) /\ (
 CallsH Tryz.prog n_142 #[.slice (slP (slP s.p s.c 0 2) (s.c - 0) i.toNat 2) ((tot.toNat - 0) - i.toNat) ((s.c - 0) - i.toNat), .int .i64 y] H15 (fun v16 H16 =>
 v16 = .tuple #[] /\ (
 R (.slice (slP s.p s.c 0 2) (tot.toNat - 0) (s.c - 0)) H16))))))))))))) (
 0 <= (s.n : Int) /\ (s.n : Int) <= (((tot.toNat - 0) : Nat) : Int) /\ (
 runH Tryz.prog (callFunc n_141 #[.slice (slP (slP s.p s.c 0 2) (s.c - 0) ((s.n : Int).toNat) 2) ((tot.toNat - 0) - (s.n : Int).toNat) ((s.c - 0) - (s.n : Int).toNat), .slice v.p v.n v.c]) H13 (fun nx2 H17 => nextV nx2 (fun v17 =>
 ∃ x11 : Bool, v17 = .bool x11 /\ (
 iteB (!x11) (
 0 <= (s.n : Int) /\ (s.n : Int) <= (((tot.toNat - 0) : Nat) : Int) /\ (
 0 <= y /\ y <= (v.c : Int) /\ (
 runH Tryz.prog (Builtin.copy_ #[t_23, t_23] t_3 #[.slice (slP (slP s.p s.c 0 2) (s.c - 0) ((s.n : Int).toNat) 2) ((tot.toNat - 0) - (s.n : Int).toNat) ((s.c - 0) - (s.n : Int).toNat), .slice (slP v.p v.c 0 2) (y.toNat - 0) (v.c - 0)]) H17 (fun v18 H18 =>
 ∃ x12 : Int, v18 = .int .i64 x12 /\ (
 0 <= j /\ j <= (((s.c - 0) : Nat) : Int) /\ (
 0 <= i /\ i <= (j.toNat : Int) /\ (
 0 <= y /\ y <= (v.n : Int) /\ (
 runH Tryz.prog (Builtin.copy_ #[t_23, t_23] t_3 #[.slice (slP (slP s.p s.c 0 2) (s.c - 0) i.toNat 2) (j.toNat - i.toNat) ((s.c - 0) - i.toNat), .slice (slP v.p v.c y.toNat 2) (v.n - y.toNat) (v.c - y.toNat)]) H18 (fun v19 H19 =>
 ∃ x13 : Int, v19 = .int .i64 x13 /\ (
 0 <= i /\ i <= (((tot.toNat - 0) : Nat) : Int) /\ (
 CallsH Tryz.prog n_142 #[.slice (slP (slP s.p s.c 0 2) (s.c - 0) i.toNat 2) ((tot.toNat - 0) - i.toNat) ((s.c - 0) - i.toNat), .int .i64 y] H19 (fun v20 H20 =>
 v20 = .tuple #[] /\ (
 R (.slice (slP s.p s.c 0 2) (tot.toNat - 0) (s.c - 0)) H20))))))))))))) (
 0 <= j /\ j <= (s.n : Int) /\ (
 CallsH Tryz.prog n_143 #[.slice v.p v.n v.c, .slice (slP s.p s.c j.toNat 2) (s.n - j.toNat) (s.c - j.toNat)] H17 (fun v21 H21 =>
 ∃ k : Int, v21 = .int .i64 k /\ (
 0 <= i /\ i <= (((tot.toNat - 0) : Nat) : Int) /\ (
 runH Tryz.prog (Builtin.copy_ #[t_23, t_23] t_3 #[.slice (slP (slP s.p s.c 0 2) (s.c - 0) i.toNat 2) ((tot.toNat - 0) - i.toNat) ((s.c - 0) - i.toNat), .slice v.p v.n v.c]) H21 (fun v22 H22 =>
 ∃ x14 : Int, v22 = .int .i64 x14 /\ (
 0 <= (IntKind.i64.wrap (i + (v.n : Int))) /\ (IntKind.i64.wrap (i + (v.n : Int))) <= (((tot.toNat - 0) : Nat) : Int) /\ (
 0 <= (IntKind.i64.wrap (i + k)) /\ (IntKind.i64.wrap (i + k)) <= (((tot.toNat - 0) : Nat) : Int) /\ (
 runH Tryz.prog (Builtin.copy_ #[t_23, t_23] t_3 #[.slice (slP (slP s.p s.c 0 2) (s.c - 0) ((IntKind.i64.wrap (i + (v.n : Int))).toNat) 2) ((tot.toNat - 0) - (IntKind.i64.wrap (i + (v.n : Int))).toNat) ((s.c - 0) - (IntKind.i64.wrap (i + (v.n : Int))).toNat), .slice (slP (slP s.p s.c 0 2) (s.c - 0) ((IntKind.i64.wrap (i + k)).toNat) 2) ((tot.toNat - 0) - (IntKind.i64.wrap (i + k)).toNat) ((s.c - 0) - (IntKind.i64.wrap (i + k)).toNat)]) H22 (fun v23 H23 =>
 ∃ x15 : Int, v23 = .int .i64 x15 /\ (
 R (.slice (slP s.p s.c 0 2) (tot.toNat - 0) (s.c - 0)) H23)))))))))))))))))))))))))))))))))))))
theorem F_128_ok {R : VP} (s : Sl) (i j : Int) (v : Sl) {H : Heap} (h : F_128 R s i j v H) : CallsH Tryz.prog n_128 #[vS s, vI i, vI j, vS v] H R := wpF_ok Tryz.func128 (show wpF Tryz.prog Tryz.f128 [] [] [] [9] _ H R = F_128 R s i j v H by kernel_rfl) h
def F_138_r1 (data : Sl) (a : Int) (cap : Addr) (I_ : Int -> Heap -> Prop) (M_ : Int -> Heap -> Nat) (i1 : Int) (H1 : Heap) (I_1 : Int -> Heap -> Prop) (M_1 : Int -> Heap -> Nat) (j : Int) (H2 : Heap) : Prop :=
 iteB (decide (j > a)) (
 0 <= j /\ j < (data.n : Int) /\ (unSome data.p (fun a1 =>
 ∃ x : Int, rd H2 (a1.add (j.toNat * 1)) = some (.int .i64 x) /\ (
 0 <= (IntKind.i64.wrap (j - (1 : Int))) /\ (IntKind.i64.wrap (j - (1 : Int))) < (data.n : Int) /\ (unSome data.p (fun a2 =>
 ∃ x1 : Int, rd H2 (a2.add ((IntKind.i64.wrap (j - (1 : Int))).toNat * 1)) = some (.int .i64 x1) /\ (
 CallsH Tryz.prog n_117 #[.int .i64 x, .int .i64 x1, .pointer (some cap)] H2 (fun v H3 =>
 ∃ x2 : Int, v = .int .i64 x2 /\ (
 iteB (decide (x2 < (0 : Int))) (
 0 <= (IntKind.i64.wrap (j - (1 : Int))) /\ (IntKind.i64.wrap (j - (1 : Int))) < (data.n : Int) /\ (unSome data.p (fun a3 =>
 ∃ x3 : Int, rd H3 (a3.add ((IntKind.i64.wrap (j - (1 : Int))).toNat * 1)) = some (.int .i64 x3) /\ (
 0 <= j /\ j < (data.n : Int) /\ (unSome data.p (fun a4 =>
 ∃ x4 : Int, rd H3 (a4.add (j.toNat * 1)) = some (.int .i64 x4) /\ (
 0 <= j /\ j < (data.n : Int) /\ (unSome data.p (fun a5 =>
 okRow H3 (a5.add (j.toNat * 1)) 1 /\ (
 letH (wrs H3 (a5.add (j.toNat * 1)) [.int .i64 x3]) (fun H4 : Heap =>
 0 <= (IntKind.i64.wrap (j - (1 : Int))) /\ (IntKind.i64.wrap (j - (1 : Int))) < (data.n : Int) /\ (unSome data.p (fun a6 =>
 okRow H4 (a6.add ((IntKind.i64.wrap (j - (1 : Int))).toNat * 1)) 1 /\ (
 letH (wrs H4 (a6.add ((IntKind.i64.wrap (j - (1 : Int))).toNat * 1)) [.int .i64 x4]) (fun H5 : Heap =>
 letV (IntKind.i64.wrap (j - (1 : Int))) (fun j1 : Int =>
 I_1 j1 H5 /\ M_1 j1 H5 < M_1 j H2)))))))))))))))) (
 letV (IntKind.i64.wrap (i1 + (1 : Int))) (fun i2 : Int =>
 I_ i2 H3 /\ M_ i2 H3 < M_ i1 H1))))))))))) (
 letV (IntKind.i64.wrap (i1 + (1 : Int))) (fun i3 : Int =>
 I_ i3 H2 /\ M_ i3 H2 < M_ i1 H1))
def F_138_r2 (R : Value -> Heap -> Prop) (data : Sl) (a : Int) (b : Int) (cap : Addr) (I_ : Int -> Heap -> Prop) (M_ : Int -> Heap -> Nat) (i1 : Int) (H1 : Heap) : Prop :=
 iteB (decide (i1 < b)) (
 ∃ I_1 : Int -> Heap -> Prop, ∃ M_1 : Int -> Heap -> Nat, I_1 i1 H1 /\ (∀ j : Int, ∀ H2 : Heap, I_1 j H2 -> F_138_r1 data a cap I_ M_ i1 H1 I_1 M_1 j H2)) (
 R (.tuple #[]) H1)
def F_138 (R : Value -> Heap -> Prop) (data : Sl) (a : Int) (b : Int) (cap : Addr) (H : Heap) : Prop :=
 letV (IntKind.i64.wrap (a + (1 : Int))) (fun i : Int =>
 ∃ I_ : Int -> Heap -> Prop, ∃ M_ : Int -> Heap -> Nat, I_ i H /\ (∀ i1 : Int, ∀ H1 : Heap, I_ i1 H1 -> F_138_r2 R data a b cap I_ M_ i1 H1))
theorem F_138_ok {R : VP} (data : Sl) (a b : Int) (cap : Addr) {H : Heap} (h : F_138 R data a b cap H) : CallsH Tryz.prog n_138 #[vS data, vI a, vI b, .func (.func 117) #[] #[.pointer (some cap)]] H R := wpF_ok Tryz.func138 (show wpF Tryz.prog Tryz.f138 [(8, vI 0), (9, vI 0)] [] [(1, [8], [0, 1, 2, 3]), (4, [9], [0, 1, 2, 3, 8])] [9] _ H R = F_138 R data a b cap H by kernel_rfl) h
def F_139_r1 (R : VP) (data : Sl) (i : Int) (I_1 : Int -> HP) (M_1 : Int -> HN) (k : Int) (H3 : Heap) : Prop :=
 iteB (decide (k < (i64.wrap (i - (1 : Int))))) (
 0 <= (i64.wrap (k + (1 : Int))) /\ (i64.wrap (k + (1 : Int))) < (data.n : Int) /\ (unSome data.p (fun a3 =>
 ∃ x3 : Int, rd H3 (a3.add ((i64.wrap (k + (1 : Int))).toNat * 1)) = some (vI x3) /\ (
 (xA k data (fun a4 =>
 ∃ x4, lI H3 (a4.add (k.toNat * 1)) x4 /\ (
 (xA k data (fun a5 =>
 okRow H3 (a5.add (k.toNat * 1)) 1 /\ (
 letH (wrs H3 (a5.add (k.toNat * 1)) [vI x3]) (fun H4 =>
 0 <= (i64.wrap (k + (1 : Int))) /\ (i64.wrap (k + (1 : Int))) < (data.n : Int) /\ (unSome data.p (fun a6 =>
 okRow H4 (a6.add ((i64.wrap (k + (1 : Int))).toNat * 1)) 1 /\ (
 letH (wrs H4 (a6.add ((i64.wrap (k + (1 : Int))).toNat * 1)) [vI x4]) (fun H5 =>
 letV (i64.wrap (k + (1 : Int))) (fun k1 =>
 I_1 k1 H5 /\ M_1 k1 H5 < M_1 k H3)))))))))))))))) (
 R (.tuple #[]) H3)
def F_139_r2 (R : VP) (data : Sl) (a : Int) (cap : Addr) (I_ : Int -> Int -> HP) (M_ : Int -> Int -> HN) (i j : Int) (H1 : Heap) : Prop :=
 iteB (decide (i < j)) (
 0 <= (1 : Int) /\ (
 letV (i64.wrap ((u64.wrap (i64.wrap (i + j))).fdiv (2 ^ (min (1 : Int).toNat IntKind.u64.bits)))) (fun h =>
 (xA h data (fun a1 =>
 ∃ x, lI H1 (a1.add (h.toNat * 1)) x /\ (
 (xA a data (fun a2 =>
 ∃ x1, lI H1 (a2.add (a.toNat * 1)) x1 /\ (
 CallsH Tryz.prog n_117 #[vI x, vI x1, .pointer (some cap)] H1 (fun v H2 =>
 ∃ x2 : Int, v = vI x2 /\ (
 iteB (decide (x2 < (0 : Int))) (
 letV (i64.wrap (h + (1 : Int))) (fun i1 =>
 I_ i1 j H2 /\ M_ i1 j H2 < M_ i j H1)) (
 I_ i h H2 /\ M_ i h H2 < M_ i j H1)))))))))))) (
 ∃ I_1 : Int -> HP, ∃ M_1 : Int -> HN, I_1 a H1 /\ (∀ k : Int, ∀ H3 : Heap, I_1 k H3 -> F_139_r1 R data i I_1 M_1 k H3))
def F_139_r3 (R : VP) (data : Sl) (i2 : Int) (I_3 : Int -> HP) (M_3 : Int -> HN) (k2 : Int) (H8 : Heap) : Prop :=
 iteB (decide (k2 > i2)) (
 0 <= (i64.wrap (k2 - (1 : Int))) /\ (i64.wrap (k2 - (1 : Int))) < (data.n : Int) /\ (unSome data.p (fun a9 =>
 ∃ x8 : Int, rd H8 (a9.add ((i64.wrap (k2 - (1 : Int))).toNat * 1)) = some (vI x8) /\ (
 (xA k2 data (fun a10 =>
 ∃ x9, lI H8 (a10.add (k2.toNat * 1)) x9 /\ (
 (xA k2 data (fun a11 =>
 okRow H8 (a11.add (k2.toNat * 1)) 1 /\ (
 letH (wrs H8 (a11.add (k2.toNat * 1)) [vI x8]) (fun H9 =>
 0 <= (i64.wrap (k2 - (1 : Int))) /\ (i64.wrap (k2 - (1 : Int))) < (data.n : Int) /\ (unSome data.p (fun a12 =>
 okRow H9 (a12.add ((i64.wrap (k2 - (1 : Int))).toNat * 1)) 1 /\ (
 letH (wrs H9 (a12.add ((i64.wrap (k2 - (1 : Int))).toNat * 1)) [vI x9]) (fun H10 =>
 letV (i64.wrap (k2 - (1 : Int))) (fun k3 =>
 I_3 k3 H10 /\ M_3 k3 H10 < M_3 k2 H8)))))))))))))))) (
 R (.tuple #[]) H8)
def F_139_r4 (R : VP) (data : Sl) (m : Int) (cap : Addr) (I_2 : Int -> Int -> HP) (M_2 : Int -> Int -> HN) (i2 j1 : Int) (H6 : Heap) : Prop :=
 iteB (decide (i2 < j1)) (
 0 <= (1 : Int) /\ (
 letV (i64.wrap ((u64.wrap (i64.wrap (i2 + j1))).fdiv (2 ^ (min (1 : Int).toNat IntKind.u64.bits)))) (fun h1 =>
 (xA m data (fun a7 =>
 ∃ x5, lI H6 (a7.add (m.toNat * 1)) x5 /\ (
 (xA h1 data (fun a8 =>
 ∃ x6, lI H6 (a8.add (h1.toNat * 1)) x6 /\ (
 CallsH Tryz.prog n_117 #[vI x5, vI x6, .pointer (some cap)] H6 (fun v1 H7 =>
 ∃ x7 : Int, v1 = vI x7 /\ (
 iteB (!(decide (x7 < (0 : Int)))) (
 letV (i64.wrap (h1 + (1 : Int))) (fun i3 =>
 I_2 i3 j1 H7 /\ M_2 i3 j1 H7 < M_2 i2 j1 H6)) (
 I_2 i2 h1 H7 /\ M_2 i2 h1 H7 < M_2 i2 j1 H6)))))))))))) (
 ∃ I_3 : Int -> HP, ∃ M_3 : Int -> HN, I_3 m H6 /\ (∀ k2 : Int, ∀ H8 : Heap, I_3 k2 H8 -> F_139_r3 R data i2 I_3 M_3 k2 H8))
def F_139_k5 (data : Sl) (m : Int) (cap : Addr) (start2 endv : Int) (J_1 : HP) (x13 : Bool) (H14 : Heap) : Prop :=
 iteB x13 (
 CallsH Tryz.prog n_149 #[vS data, vI start2, vI m, vI endv, .func (.func 117) #[] #[.pointer (some cap)]] H14 (fun v3 H15 =>
 v3 = .tuple #[] /\ (
 J_1 H15))) (
 J_1 H14)
def F_139_k6 (data : Sl) (a : Int) (cap : Addr) (mid start2 : Int) (J_3 : HP) (x14 : Bool) (H17 : Heap) : Prop :=
 iteB x14 (
 CallsH Tryz.prog n_139 #[vS data, vI a, vI start2, vI mid, .func (.func 117) #[] #[.pointer (some cap)]] H17 (fun v4 H18 =>
 v4 = .tuple #[] /\ (
 J_3 H18))) (
 J_3 H17)
def F_139_k7 (R : VP) (data : Sl) (b : Int) (cap : Addr) (mid endv : Int) (x15 : Bool) (H20 : Heap) : Prop :=
 iteB x15 (
 CallsH Tryz.prog n_139 #[vS data, vI mid, vI endv, vI b, .func (.func 117) #[] #[.pointer (some cap)]] H20 (fun v5 H21 =>
 v5 = .tuple #[] /\ (
 R (.tuple #[]) H21))) (
 R (.tuple #[]) H20)
def F_139_k8 (R : VP) (data : Sl) (b : Int) (cap : Addr) (mid endv : Int) (H19 : Heap) : Prop :=
 ∃ J_5 : Bool -> HP, (
 iteB (decide (mid < endv)) (
 J_5 (decide (endv < b)) H19) (
 J_5 false H19)) /\ (∀ x15 : Bool, ∀ H20 : Heap, J_5 x15 H20 -> F_139_k7 R data b cap mid endv x15 H20)
def F_139_k9 (R : VP) (data : Sl) (a b : Int) (cap : Addr) (mid start2 endv : Int) (H16 : Heap) : Prop :=
 ∃ J_3 : HP, (
 ∃ J_4 : Bool -> HP, (
 iteB (decide (a < start2)) (
 J_4 (decide (start2 < mid)) H16) (
 J_4 false H16)) /\ (∀ x14 : Bool, ∀ H17 : Heap, J_4 x14 H17 -> F_139_k6 data a cap mid start2 J_3 x14 H17)) /\ (∀ H19 : Heap, J_3 H19 -> F_139_k8 R data b cap mid endv H19)
def F_139_r10 (R : VP) (data : Sl) (a m b : Int) (cap : Addr) (mid n p : Int) (I_4 : Int -> Int -> HP) (M_4 : Int -> Int -> HN) (start2 r1 : Int) (H12 : Heap) : Prop :=
 iteB (decide (start2 < r1)) (
 0 <= (1 : Int) /\ (
 letV (i64.wrap ((u64.wrap (i64.wrap (start2 + r1))).fdiv (2 ^ (min (1 : Int).toNat IntKind.u64.bits)))) (fun c =>
 0 <= (i64.wrap (p - c)) /\ (i64.wrap (p - c)) < (data.n : Int) /\ (unSome data.p (fun a13 =>
 ∃ x10, lI H12 (a13.add ((i64.wrap (p - c)).toNat * 1)) x10 /\ (
 (xA c data (fun a14 =>
 ∃ x11, lI H12 (a14.add (c.toNat * 1)) x11 /\ (
 CallsH Tryz.prog n_117 #[vI x10, vI x11, .pointer (some cap)] H12 (fun v2 H13 =>
 ∃ x12 : Int, v2 = vI x12 /\ (
 iteB (!(decide (x12 < (0 : Int)))) (
 letV (i64.wrap (c + (1 : Int))) (fun start3 =>
 I_4 start3 r1 H13 /\ M_4 start3 r1 H13 < M_4 start2 r1 H12)) (
 I_4 start2 c H13 /\ M_4 start2 c H13 < M_4 start2 r1 H12)))))))))))) (
 letV (i64.wrap (n - start2)) (fun endv =>
 ∃ J_1 : HP, (
 ∃ J_2 : Bool -> HP, (
 iteB (decide (start2 < m)) (
 J_2 (decide (m < endv)) H12) (
 J_2 false H12)) /\ (∀ x13 : Bool, ∀ H14 : Heap, J_2 x13 H14 -> F_139_k5 data m cap start2 endv J_1 x13 H14)) /\ (∀ H16 : Heap, J_1 H16 -> F_139_k9 R data a b cap mid start2 endv H16)))
def F_139_k11 (R : VP) (data : Sl) (a m b : Int) (cap : Addr) (mid n start1 r : Int) (H11 : Heap) : Prop :=
 letV (i64.wrap (n - (1 : Int))) (fun p =>
 ∃ I_4 : Int -> Int -> HP, ∃ M_4 : Int -> Int -> HN, I_4 start1 r H11 /\ (∀ start2 r1 : Int, ∀ H12 : Heap, I_4 start2 r1 H12 -> F_139_r10 R data a m b cap mid n p I_4 M_4 start2 r1 H12))
def F_139 (R : VP) (data : Sl) (a m b : Int) (cap : Addr) (H : Heap) : Prop :=
 iteB ((i64.wrap (m - a)) == (1 : Int)) (
 ∃ I_ : Int -> Int -> HP, ∃ M_ : Int -> Int -> HN, I_ m b H /\ (∀ i j : Int, ∀ H1 : Heap, I_ i j H1 -> F_139_r2 R data a cap I_ M_ i j H1)) (
 iteB ((i64.wrap (b - m)) == (1 : Int)) (
 ∃ I_2 : Int -> Int -> HP, ∃ M_2 : Int -> Int -> HN, I_2 a m H /\ (∀ i2 j1 : Int, ∀ H6 : Heap, I_2 i2 j1 H6 -> F_139_r4 R data m cap I_2 M_2 i2 j1 H6)) (
 0 <= (1 : Int) /\ (
 letV (i64.wrap ((u64.wrap (i64.wrap (a + b))).fdiv (2 ^ (min (1 : Int).toNat IntKind.u64.bits)))) (fun mid =>
 letV (i64.wrap (mid + m)) (fun n =>
 ∃ J_ : Int -> Int -> HP, (
 iteB (decide (m > mid)) (
 letV (i64.wrap (n - b)) (fun start =>
 J_ start mid H)) (
 J_ a m H)) /\ (∀ start1 r : Int, ∀ H11 : Heap, J_ start1 r H11 -> F_139_k11 R data a m b cap mid n start1 r H11))))))
theorem F_139_ok {R : VP} (data : Sl) (a m b : Int) (cap : Addr) {H : Heap} (h : F_139 R data a m b cap H) : CallsH Tryz.prog n_139 #[vS data, vI a, vI m, vI b, .func (.func 117) #[] #[.pointer (some cap)]] H R := wpF_ok Tryz.func139 (show wpF Tryz.prog Tryz.f139 [(10, vI 0), (11, vI 0), (13, vI 0), (14, vI 0), (15, vI 0), (17, vI 0), (20, vI 0), (21, vI 0), (185, .bool false), (199, .bool false), (213, .bool false)] [(32, [20, 21], [0, 1, 2, 3, 4, 18, 19]), (41, [], [0, 1, 3, 4, 18, 20, 24]), (40, [185], [0, 1, 2, 3, 4, 18, 20, 24]), (43, [], [0, 3, 4, 18, 24]), (42, [199], [0, 1, 3, 4, 18, 20, 24]), (44, [213], [0, 3, 4, 18, 24])] [(3, [10, 11], [0, 1, 4]), (9, [13], [0, 10]), (15, [14, 15], [0, 2, 4]), (21, [17], [0, 14]), (33, [20, 21], [0, 1, 2, 3, 4, 18, 19, 22])] [9] _ H R = F_139 R data a m b cap H by kernel_rfl) h
def F_149_r1 (R : VP) (data : Sl) (m : Int) (cap : Addr) (I_ : Int -> Int -> HP) (M_ : Int -> Int -> HN) (i1 j1 : Int) (H1 : Heap) : Prop :=
 iteB (i1 != j1) (
 iteB (decide (i1 > j1)) (
 CallsH Tryz.prog n_152 #[vS data, vI (i64.wrap (m - i1)), vI m, vI j1, .func (.func 117) #[] #[.pointer (some cap)]] H1 (fun v H2 =>
 v = .tuple #[] /\ (
 letV (i64.wrap (i1 - j1)) (fun i2 =>
 I_ i2 j1 H2 /\ M_ i2 j1 H2 < M_ i1 j1 H1)))) (
 CallsH Tryz.prog n_152 #[vS data, vI (i64.wrap (m - i1)), vI (i64.wrap ((i64.wrap (m + j1)) - i1)), vI i1, .func (.func 117) #[] #[.pointer (some cap)]] H1 (fun v1 H3 =>
 v1 = .tuple #[] /\ (
 letV (i64.wrap (j1 - i1)) (fun j2 =>
 I_ i1 j2 H3 /\ M_ i1 j2 H3 < M_ i1 j1 H1))))) (
 CallsH Tryz.prog n_152 #[vS data, vI (i64.wrap (m - i1)), vI m, vI i1, .func (.func 117) #[] #[.pointer (some cap)]] H1 (fun v2 H4 =>
 v2 = .tuple #[] /\ (
 R (.tuple #[]) H4)))
def F_149 (R : VP) (data : Sl) (a m b : Int) (cap : Addr) (H : Heap) : Prop :=
 letV (i64.wrap (m - a)) (fun i =>
 letV (i64.wrap (b - m)) (fun j =>
 ∃ I_ : Int -> Int -> HP, ∃ M_ : Int -> Int -> HN, I_ i j H /\ (∀ i1 j1 : Int, ∀ H1 : Heap, I_ i1 j1 H1 -> F_149_r1 R data m cap I_ M_ i1 j1 H1)))
theorem F_149_ok {R : VP} (data : Sl) (a m b : Int) (cap : Addr) {H : Heap} (h : F_149 R data a m b cap H) : CallsH Tryz.prog n_149 #[vS data, vI a, vI m, vI b, .func (.func 117) #[] #[.pointer (some cap)]] H R := wpF_ok Tryz.func149 (show wpF Tryz.prog Tryz.f149 [(10, vI 0), (11, vI 0)] [] [(2, [10, 11], [0, 2, 4])] [9] _ H R = F_149 R data a m b cap H by kernel_rfl) h
def F_152_r1 (R : Value -> Heap -> Prop) (data : Sl) (a : Int) (b : Int) (n : Int) (I_ : Int -> Heap -> Prop) (M_ : Int -> Heap -> Nat) (i : Int) (H1 : Heap) : Prop :=
 iteB (decide (i < n)) (
 0 <= (IntKind.i64.wrap (b + i)) /\ (IntKind.i64.wrap (b + i)) < (data.n : Int) /\ (unSome data.p (fun a1 =>
 ∃ x : Int, rd H1 (a1.add ((IntKind.i64.wrap (b + i)).toNat * 1)) = some (.int .i64 x) /\ (
 0 <= (IntKind.i64.wrap (a + i)) /\ (IntKind.i64.wrap (a + i)) < (data.n : Int) /\ (unSome data.p (fun a2 =>
 ∃ x1 : Int, rd H1 (a2.add ((IntKind.i64.wrap (a + i)).toNat * 1)) = some (.int .i64 x1) /\ (
 0 <= (IntKind.i64.wrap (a + i)) /\ (IntKind.i64.wrap (a + i)) < (data.n : Int) /\ (unSome data.p (fun a3 =>
 okRow H1 (a3.add ((IntKind.i64.wrap (a + i)).toNat * 1)) 1 /\ (
 letH (wrs H1 (a3.add ((IntKind.i64.wrap (a + i)).toNat * 1)) [.int .i64 x]) (fun H2 : Heap =>
 0 <= (IntKind.i64.wrap (b + i)) /\ (IntKind.i64.wrap (b + i)) < (data.n : Int) /\ (unSome data.p (fun a4 =>
 okRow H2 (a4.add ((IntKind.i64.wrap (b + i)).toNat * 1)) 1 /\ (
 letH (wrs H2 (a4.add ((IntKind.i64.wrap (b + i)).toNat * 1)) [.int .i64 x1]) (fun H3 : Heap =>
 letV (IntKind.i64.wrap (i + (1 : Int))) (fun i1 : Int =>
 I_ i1 H3 /\ M_ i1 H3 < M_ i H1)))))))))))))))) (
 R (.tuple #[]) H1)
def F_152 (R : Value -> Heap -> Prop) (data : Sl) (a : Int) (b : Int) (n : Int) (cap : Addr) (H : Heap) : Prop :=
 ∃ I_ : Int -> Heap -> Prop, ∃ M_ : Int -> Heap -> Nat, I_ (0 : Int) H /\ (∀ i : Int, ∀ H1 : Heap, I_ i H1 -> F_152_r1 R data a b n I_ M_ i H1)
theorem F_152_ok {R : VP} (data : Sl) (a b n : Int) (cap : Addr) {H : Heap} (h : F_152 R data a b n cap H) : CallsH Tryz.prog n_152 #[vS data, vI a, vI b, vI n, .func (.func 117) #[] #[.pointer (some cap)]] H R := wpF_ok Tryz.func152 (show wpF Tryz.prog Tryz.f152 [(10, vI 0)] [] [(1, [10], [0, 1, 2, 3])] [9] _ H R = F_152 R data a b n cap H by kernel_rfl) h

end Go.Proofs.YtnhhncjflnlfaaaGreat
