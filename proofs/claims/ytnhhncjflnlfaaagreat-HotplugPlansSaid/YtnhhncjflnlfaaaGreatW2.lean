/-
  The shallow readings of this seat's functions, written by a program (gen.py); the kernel holds each against the loaded program.
-/
import Derived.Test.YtnhhncjflnlfaaaGreatProg
import Derived.Test.YtnhhncjflnlfaaaGreatW1
namespace Go.Proofs.YtnhhncjflnlfaaaGreat
open Go.Eng
set_option linter.unusedVariables false
open IntKind (i64 u64 u8)

def F_35_k1 (I_2 : Sl -> Int -> HP) (M_2 : Sl -> Int -> HN) (moves2 : Sl) (x4 : Int) (H10 : Heap) (x13 : Bool) (H13 : Heap) : Prop :=
 iteB x13 (
 ∃ x14, lI H13 (aZ H10) x14 /\ ∃ x15, lI H13 (aP H10 1) x15 /\ ∃ x16, lI H13 (aP H10 2) x16 /\ ∃ x17, lI H13 (aP H10 3) x17 /\ ∃ x18, lU H13 (aP H10 4) x18 /\ (
 CallsH Tryz.prog n_72 #[.agg #[vI x14, vI x15, vI x16, vI x17, vU x18]] H13 (fun v4 H14 =>
 ∃ x19 x20 : Int, ∃ x21 x22 : Int, v4 = .agg #[vI x19, vI x20, vI x21, vU x22] /\ (
 letH (H14.push (.cells #[vI x19, vI x20, vI x21, vU x22] t_47 (0, 0))) (fun H15 =>
 runH Tryz.prog (Builtin.append_ #[t_37, t_37] t_37 #[vS moves2, .slice (some (aZ H14)) 1 1]) H15 (fun v5 H16 =>
 ∃ moves3 : Sl, v5 = vS moves3 /\ (
 I_2 moves3 (i64.wrap (x4 + (1 : Int))) H16 /\ M_2 moves3 (i64.wrap (x4 + (1 : Int))) H16 < M_2 moves2 x4 H10))))))) (
 I_2 moves2 (i64.wrap (x4 + (1 : Int))) H13 /\ M_2 moves2 (i64.wrap (x4 + (1 : Int))) H13 < M_2 moves2 x4 H10)
def F_35_k2 (I_3 : Sl -> Int -> HP) (M_3 : Sl -> Int -> HN) (moves4 : Sl) (f6 : Int) (H17 : Heap) (x24 : Bool) (H18 : Heap) : Prop :=
 iteB x24 (
 letH (H18.push (.cells #[vI (3 : Int), vI f6, vO, vU (0 : Int)] t_47 (0, 0))) (fun H19 =>
 runH Tryz.prog (Builtin.append_ #[t_37, t_37] t_37 #[vS moves4, .slice (some (aZ H18)) 1 1]) H19 (fun v6 H20 =>
 ∃ moves5 : Sl, v6 = vS moves5 /\ (
 letV (i64.wrap (f6 + (1 : Int))) (fun f7 =>
 I_3 moves5 f7 H20 /\ M_3 moves5 f7 H20 < M_3 moves4 f6 H17))))) (
 letV (i64.wrap (f6 + (1 : Int))) (fun f8 =>
 I_3 moves4 f8 H18 /\ M_3 moves4 f8 H18 < M_3 moves4 f6 H17))
def F_35_r3 (R : VP) (count n : Int) (H2 : Heap) (I_3 : Sl -> Int -> HP) (M_3 : Sl -> Int -> HN) (moves4 : Sl) (f6 : Int) (H17 : Heap) : Prop :=
 iteB (decide (f6 < count)) (
 ∃ J_1 : Bool -> HP, (
 iteB (decide (f6 >= n)) (
 J_1 true H17) (
 0 <= f6 /\ f6 < (count.toNat : Int) /\ (∃ x23, lB H17 ((aZ H2).add (f6.toNat * 1)) x23 /\ (
 J_1 x23 H17)))) /\ (∀ x24 : Bool, ∀ H18 : Heap, J_1 x24 H18 -> F_35_k2 I_3 M_3 moves4 f6 H17 x24 H18)) (
 R (vS moves4) H17)
def F_35_r4 (R : VP) (a : Sl) (count n : Int) (H2 : Heap) (I_2 : Sl -> Int -> HP) (M_2 : Sl -> Int -> HN) (moves2 : Sl) (x4 : Int) (H10 : Heap) : Prop :=
 iteB (decide (x4 < (a.n : Int))) (
 (xA x4 a (fun a3 =>
 ∃ x5, lI H10 (a3.add (x4.toNat * 5)) x5 /\ ∃ x6, lI H10 ((a3.add (x4.toNat * 5)).add 1) x6 /\ ∃ x7, lI H10 ((a3.add (x4.toNat * 5)).add 2) x7 /\ ∃ x8, lI H10 ((a3.add (x4.toNat * 5)).add 3) x8 /\ ∃ x9, lU H10 ((a3.add (x4.toNat * 5)).add 4) x9 /\ (
 letH (H10.push (.cells #[vO, vO, vO, vO, vU (0 : Int)] t_32 (0, 0))) (fun H11 =>
 okRow H11 (aZ H10) 5 /\ (
 letH (wrs H11 (aZ H10) [vI x5, vI x6, vI x7, vI x8, vU x9]) (fun H12 =>
 ∃ J_ : Bool -> HP, (
 ∃ x10, lI H12 (aZ H10) x10 /\ (
 iteB (decide (x10 >= n)) (
 J_ true H12) (
 ∃ x11, lI H12 (aZ H10) x11 /\ (
 0 <= x11 /\ x11 < (count.toNat : Int) /\ (∃ x12, lB H12 ((aZ H2).add (x11.toNat * 1)) x12 /\ (
 J_ x12 H12)))))) /\ (∀ x13 : Bool, ∀ H13 : Heap, J_ x13 H13 -> F_35_k1 I_2 M_2 moves2 x4 H10 x13 H13)))))))) (
 ∃ I_3 : Sl -> Int -> HP, ∃ M_3 : Sl -> Int -> HN, I_3 moves2 (0 : Int) H10 /\ (∀ moves4 : Sl, ∀ f6 : Int, ∀ H17 : Heap, I_3 moves4 f6 H17 -> F_35_r3 R count n H2 I_3 M_3 moves4 f6 H17))
def F_35_r5 (R : VP) (a : Sl) (count n : Int) (H2 : Heap) (I_1 : Sl -> Int -> HP) (M_1 : Sl -> Int -> HN) (moves : Sl) (f3 : Int) (H7 : Heap) : Prop :=
 iteB (decide (f3 >= (0 : Int))) (
 0 <= f3 /\ f3 < (count.toNat : Int) /\ (∃ x3, lB H7 ((aZ H2).add (f3.toNat * 1)) x3 /\ (
 iteB x3 (
 letH (H7.push (.cells #[vI (1 : Int), vI f3, vO, vU (0 : Int)] t_47 (0, 0))) (fun H8 =>
 runH Tryz.prog (Builtin.append_ #[t_37, t_37] t_37 #[vS moves, .slice (some (aZ H7)) 1 1]) H8 (fun v3 H9 =>
 ∃ moves1 : Sl, v3 = vS moves1 /\ (
 letV (i64.wrap (f3 - (1 : Int))) (fun f4 =>
 I_1 moves1 f4 H9 /\ M_1 moves1 f4 H9 < M_1 moves f3 H7))))) (
 letV (i64.wrap (f3 - (1 : Int))) (fun f5 =>
 I_1 moves f5 H7 /\ M_1 moves f5 H7 < M_1 moves f3 H7))))) (
 ∃ I_2 : Sl -> Int -> HP, ∃ M_2 : Sl -> Int -> HN, I_2 moves (0 : Int) H7 /\ (∀ moves2 : Sl, ∀ x4 : Int, ∀ H10 : Heap, I_2 moves2 x4 H10 -> F_35_r4 R a count n H2 I_2 M_2 moves2 x4 H10))
def F_35_r6 (R : VP) (a : Sl) (count n : Int) (before : Sl) (H2 : Heap) (after : Sl) (I_ : Int -> HP) (M_ : Int -> HN) (f : Int) (H4 : Heap) : Prop :=
 iteB (decide (f < n)) (
 (xA f before (fun a1 =>
 ∃ x, lS H4 (a1.add (f.toNat * 1)) x /\ (
 (xA f after (fun a2 =>
 ∃ x1, lS H4 (a2.add (f.toNat * 1)) x1 /\ (
 CallsH Tryz.prog n_75 #[vS x, vS x1] H4 (fun v2 H5 =>
 ∃ x2 : Bool, v2 = .bool x2 /\ (
 0 <= f /\ f < (count.toNat : Int) /\ (okRow H5 ((aZ H2).add (f.toNat * 1)) 1 /\ (
 letH (wrs H5 ((aZ H2).add (f.toNat * 1)) [.bool (!x2)]) (fun H6 =>
 letV (i64.wrap (f + (1 : Int))) (fun f1 =>
 I_ f1 H6 /\ M_ f1 H6 < M_ f H4))))))))))))) (
 letV (i64.wrap (n - (1 : Int))) (fun f2 =>
 ∃ I_1 : Sl -> Int -> HP, ∃ M_1 : Sl -> Int -> HN, I_1 (Sl.mk none 0 0) f2 H4 /\ (∀ moves : Sl, ∀ f3 : Int, ∀ H7 : Heap, I_1 moves f3 H7 -> F_35_r5 R a count n H2 I_1 M_1 moves f3 H7)))
def F_35 (R : VP) (old a : Sl) (count n : Int) (H : Heap) : Prop :=
 CallsH Tryz.prog n_74 #[vS old, vI count] H (fun v H1 =>
 ∃ before : Sl, v = vS before /\ (
 CallsH Tryz.prog n_74 #[vS a, vI count] H1 (fun v1 H2 =>
 ∃ after : Sl, v1 = vS after /\ (
 0 <= count /\ count <= count /\ count * ((1 : Nat) : Int) <= 281474976710656 /\ (
 letH (H2.push (.cells (zeroRow (.bool false) count.toNat) t_4 (0, 0))) (fun H3 =>
 ∃ I_ : Int -> HP, ∃ M_ : Int -> HN, I_ (0 : Int) H3 /\ (∀ f : Int, ∀ H4 : Heap, I_ f H4 -> F_35_r6 R a count n before H2 after I_ M_ f H4)))))))
theorem F_35_ok {R : VP} (old a : Sl) (count n : Int) {H : Heap} (h : F_35 R old a count n H) : CallsH Tryz.prog n_35 #[vS old, vS a, vI count, vI n] H R := wpF_ok Tryz.func35 (show wpF Tryz.prog Tryz.f35 [(12, vI 0), (13, vN), (14, vI 0), (17, vI 0), (61, vI 0), (77, .bool false), (97, .bool false)] [(17, [77], [2, 3, 11, 13, 16, 59, 60, 61]), (23, [97], [2, 3, 11, 13, 17])] [(4, [12], [1, 2, 3, 9, 10, 11]), (9, [13, 14], [1, 2, 3, 11]), (14, [13, 61], [2, 3, 11, 59, 60]), (20, [13, 17], [2, 3, 11])] [9] _ H R = F_35 R old a count n H by kernel_rfl) h
def F_36_r1 (R : VP) (l : Sl) (n : Int) (I_ : Int -> HP) (M_ : Int -> HN) (i : Int) (H4 : Heap) : Prop :=
 iteB (decide (i < (l.n : Int))) (
 (xA i l (fun a =>
 ∃ p, lI H4 (a.add (i.toNat * 11)) p /\ (
 iteB (decide (p < (0 : Int))) (
 R (.bool false) H4) (
 iteB (decide (p < n)) (
 (xA p l (fun a1 =>
 ∃ x10, lB H4 ((a1.add (p.toNat * 11)).add 6) x10 /\ (
 iteB (!x10) (
 R (.bool false) H4) (
 letV (i64.wrap (i + (1 : Int))) (fun i1 =>
 I_ i1 H4 /\ M_ i1 H4 < M_ i H4)))))) (
 letV (i64.wrap (i + (1 : Int))) (fun i2 =>
 I_ i2 H4 /\ M_ i2 H4 < M_ i H4))))))) (
 R (.bool true) H4)
def F_36 (R : VP) (l : Sl) (h_0 : Int) (h_1 h_2 h_3 h_4 h_5 h_6 h_7 : Sl) (n : Int) (H : Heap) : Prop :=
 letH (H.push (.cells #[vI h_0, vS h_1, vS h_2, vS h_3, vS h_4, vS h_5, vS h_6, vS h_7] t_27 (0, 0))) (fun H1 =>
 CallsH Tryz.prog n_52 #[vS l] H1 (fun v H2 =>
 ∃ x : Bool, v = .bool x /\ (
 iteB (!x) (
 R (.bool false) H2) (
 ∃ x1, lI H2 (aZ H) x1 /\ ∃ x2, lS H2 (aP H 1) x2 /\ ∃ x3, lS H2 (aP H 2) x3 /\ ∃ x4, lS H2 (aP H 3) x4 /\ ∃ x5, lS H2 (aP H 4) x5 /\ ∃ x6, lS H2 (aP H 5) x6 /\ ∃ x7, lS H2 (aP H 6) x7 /\ ∃ x8, lS H2 (aP H 7) x8 /\ (
 CallsH Tryz.prog n_61 #[gE x1 x2 x3 x4 x5 x6 x7 x8] H2 (fun v1 H3 =>
 ∃ x9 : Bool, v1 = .bool x9 /\ (
 iteB (!x9) (
 R (.bool false) H3) (
 iteB (decide (n < (0 : Int))) (
 R (.bool false) H3) (
 iteB (decide (n > (l.n : Int))) (
 R (.bool false) H3) (
 ∃ I_ : Int -> HP, ∃ M_ : Int -> HN, I_ n H3 /\ (∀ i : Int, ∀ H4 : Heap, I_ i H4 -> F_36_r1 R l n I_ M_ i H4)))))))))))
theorem F_36_ok {R : VP} (l : Sl) (h_0 : Int) (h_1 h_2 h_3 h_4 h_5 h_6 h_7 : Sl) (n : Int) {H : Heap} (h : F_36 R l h_0 h_1 h_2 h_3 h_4 h_5 h_6 h_7 n H) : CallsH Tryz.prog n_36 #[vS l, gE h_0 h_1 h_2 h_3 h_4 h_5 h_6 h_7, vI n] H R := wpF_ok Tryz.func36 (show wpF Tryz.prog Tryz.f36 [(7, vI 0)] [] [(4, [7], [0, 2])] [9] _ H R = F_36 R l h_0 h_1 h_2 h_3 h_4 h_5 h_6 h_7 n H by kernel_rfl) h
def F_37_r1 (R : VP) (l a : Sl) (I_1 : Int -> HP) (M_1 : Int -> HN) (i2 : Int) (H6 : Heap) (parent : Int) (I_2 : Int -> HP) (M_2 : Int -> HN) (k : Int) (H16 : Heap) : Prop :=
 iteB (decide (k < i2)) (
 (xA k a (fun a6 =>
 ∃ x55, lI H16 ((a6.add (k.toNat * 5)).add 2) x55 /\ (
 ∃ x56, lI H16 (aP H6 2) x56 /\ (
 iteB (x55 == x56) (
 (xA k a (fun a7 =>
 ∃ x57, lI H16 (a7.add (k.toNat * 5)) x57 /\ (
 (xA x57 l (fun a8 =>
 ∃ x58, lI H16 (a8.add (x57.toNat * 11)) x58 /\ (
 iteB (x58 == parent) (
 (xA k a (fun a9 =>
 ∃ x59, lU H16 ((a9.add (k.toNat * 5)).add 4) x59 /\ (
 ∃ x60, lU H16 (aP H6 4) x60 /\ (
 ∃ x61, lI H16 (aZ H6) x61 /\ ∃ x62, lI H16 (aP H6 1) x62 /\ ∃ x63, lI H16 (aP H6 2) x63 /\ ∃ x64, lI H16 (aP H6 3) x64 /\ ∃ x65, lU H16 (aP H6 4) x65 /\ (
 CallsH Tryz.prog n_76 #[.agg #[vI x61, vI x62, vI x63, vI x64, vU x65]] H16 (fun v8 H17 =>
 ∃ x66 x67 : Int, v8 = .agg #[vU x66, vU x67] /\ (
 Keeps H16 H17 [(((a9.add (k.toNat * 5)).add 4), 1), ((aP H6 4), 1)] /\ (
 iteB (decide (x59 < (u64.wrap (x60 + x67)))) (
 ∃ x68, lU H17 (aP H6 4) x68 /\ (
 (xA k a (fun a10 =>
 ∃ x69, lU H17 ((a10.add (k.toNat * 5)).add 4) x69 /\ (
 (xA k a (fun a11 =>
 ∃ x70, lI H17 (a11.add (k.toNat * 5)) x70 /\ ∃ x71, lI H17 ((a11.add (k.toNat * 5)).add 1) x71 /\ ∃ x72, lI H17 ((a11.add (k.toNat * 5)).add 2) x72 /\ ∃ x73, lI H17 ((a11.add (k.toNat * 5)).add 3) x73 /\ ∃ x74, lU H17 ((a11.add (k.toNat * 5)).add 4) x74 /\ (
 CallsH Tryz.prog n_76 #[.agg #[vI x70, vI x71, vI x72, vI x73, vU x74]] H17 (fun v9 H18 =>
 ∃ x75 x76 : Int, v9 = .agg #[vU x75, vU x76] /\ (
 Keeps H17 H18 [((aP H6 4), 1), (((a10.add (k.toNat * 5)).add 4), 1)] /\ (
 iteB (decide (x68 < (u64.wrap (x69 + x76)))) (
 R (.bool false) H18) (
 letV (i64.wrap (k + (1 : Int))) (fun k1 =>
 I_2 k1 H18 /\ M_2 k1 H18 < M_2 k H16))))))))))))) (
 letV (i64.wrap (k + (1 : Int))) (fun k2 =>
 I_2 k2 H17 /\ M_2 k2 H17 < M_2 k H16))))))))))) (
 letV (i64.wrap (k + (1 : Int))) (fun k3 =>
 I_2 k3 H16 /\ M_2 k3 H16 < M_2 k H16))))))))) (
 letV (i64.wrap (k + (1 : Int))) (fun k4 =>
 I_2 k4 H16 /\ M_2 k4 H16 < M_2 k H16))))))) (
 letV (i64.wrap (i2 + (1 : Int))) (fun i3 =>
 I_1 i3 H16 /\ M_1 i3 H16 < M_1 i2 H6))
def F_37_k2 (R : VP) (l a : Sl) (I_1 : Int -> HP) (M_1 : Int -> HN) (i2 : Int) (H6 : Heap) (parent : Int) (free1 : Sl) (H13 : Heap) : Prop :=
 ∃ x45, lU H13 (aP H6 4) x45 /\ (
 ∃ x46, lI H13 (aP H6 3) x46 /\ (
 0 <= (u64.wrap x46) /\ (
 (u64.wrap ((1 : Int) * 2 ^ (min (u64.wrap x46).toNat IntKind.u64.bits))) ≠ 0 /\ (
 iteB ((x45.tmod (u64.wrap ((1 : Int) * 2 ^ (min (u64.wrap x46).toNat IntKind.u64.bits)))) != (0 : Int)) (
 R (.bool false) H13) (
 ∃ x47, lI H13 (aZ H6) x47 /\ ∃ x48, lI H13 (aP H6 1) x48 /\ ∃ x49, lI H13 (aP H6 2) x49 /\ ∃ x50, lI H13 (aP H6 3) x50 /\ ∃ x51, lU H13 (aP H6 4) x51 /\ (
 CallsH Tryz.prog n_76 #[.agg #[vI x47, vI x48, vI x49, vI x50, vU x51]] H13 (fun v6 H14 =>
 ∃ x52 x53 : Int, v6 = .agg #[vU x52, vU x53] /\ (
 CallsH Tryz.prog n_77 #[vS free1, .agg #[vU x52, vU x53]] H14 (fun v7 H15 =>
 ∃ x54 : Bool, v7 = .bool x54 /\ (
 iteB (!x54) (
 R (.bool false) H15) (
 ∃ I_2 : Int -> HP, ∃ M_2 : Int -> HN, I_2 (0 : Int) H15 /\ (∀ k : Int, ∀ H16 : Heap, I_2 k H16 -> F_37_r1 R l a I_1 M_1 i2 H6 parent I_2 M_2 k H16))))))))))))
def F_37_r3 (R : VP) (H : Heap) (l a : Sl) (I_1 : Int -> HP) (M_1 : Int -> HN) (i2 : Int) (H6 : Heap) : Prop :=
 iteB (decide (i2 < (a.n : Int))) (
 (xA i2 a (fun a3 =>
 ∃ x21, lI H6 (a3.add (i2.toNat * 5)) x21 /\ ∃ x22, lI H6 ((a3.add (i2.toNat * 5)).add 1) x22 /\ ∃ x23, lI H6 ((a3.add (i2.toNat * 5)).add 2) x23 /\ ∃ x24, lI H6 ((a3.add (i2.toNat * 5)).add 3) x24 /\ ∃ x25, lU H6 ((a3.add (i2.toNat * 5)).add 4) x25 /\ (
 letH (H6.push (.cells #[vO, vO, vO, vO, vU (0 : Int)] t_32 (0, 0))) (fun H7 =>
 okRow H7 (aZ H6) 5 /\ (
 letH (wrs H7 (aZ H6) [vI x21, vI x22, vI x23, vI x24, vU x25]) (fun H8 =>
 ∃ x26, lI H8 (aZ H) x26 /\ ∃ x27, lS H8 (aP H 1) x27 /\ ∃ x28, lS H8 (aP H 2) x28 /\ ∃ x29, lS H8 (aP H 3) x29 /\ ∃ x30, lS H8 (aP H 4) x30 /\ ∃ x31, lS H8 (aP H 5) x31 /\ ∃ x32, lS H8 (aP H 6) x32 /\ ∃ x33, lS H8 (aP H 7) x33 /\ (
 ∃ x34, lI H8 (aP H6 2) x34 /\ (
 CallsH Tryz.prog n_19 #[gE x26 x27 x28 x29 x30 x31 x32 x33, vI x34] H8 (fun v3 H9 =>
 ∃ free : Sl, v3 = vS free /\ (
 ∃ x35, lI H9 (aZ H6) x35 /\ (
 (xA x35 l (fun a4 =>
 ∃ parent, lI H9 (a4.add (x35.toNat * 11)) parent /\ (
 ∃ J_ : Sl -> HP, (
 iteB (decide (parent >= (0 : Int))) (
 ∃ x36, lI H9 (aP H6 2) x36 /\ (
 CallsH Tryz.prog n_63 #[vS a, vI parent, vI (i64.wrap ((-1 : Int) - x36))] H9 (fun v4 H10 =>
 ∃ x37 : Int, v4 = vI x37 /\ (
 (xA x37 a (fun a5 =>
 ∃ x38, lI H10 (a5.add (x37.toNat * 5)) x38 /\ ∃ x39, lI H10 ((a5.add (x37.toNat * 5)).add 1) x39 /\ ∃ x40, lI H10 ((a5.add (x37.toNat * 5)).add 2) x40 /\ ∃ x41, lI H10 ((a5.add (x37.toNat * 5)).add 3) x41 /\ ∃ x42, lU H10 ((a5.add (x37.toNat * 5)).add 4) x42 /\ (
 CallsH Tryz.prog n_76 #[.agg #[vI x38, vI x39, vI x40, vI x41, vU x42]] H10 (fun v5 H11 =>
 ∃ x43 x44 : Int, v5 = .agg #[vU x43, vU x44] /\ (
 letH (H11.push (.cells #[vU x43, vU x44] t_95 (0, 0))) (fun H12 =>
 J_ (Sl.mk (some (aZ H11)) 1 1) H12)))))))))) (
 J_ free H9)) /\ (∀ free1 : Sl, ∀ H13 : Heap, J_ free1 H13 -> F_37_k2 R l a I_1 M_1 i2 H6 parent free1 H13)))))))))))))))) (
 R (.bool true) H6)
def F_37_r4 (R : VP) (H : Heap) (l a x11 : Sl) (I_ : Int -> HP) (M_ : Int -> HN) (i : Int) (H5 : Heap) : Prop :=
 iteB (decide (i < (a.n : Int))) (
 (xA i a (fun a1 =>
 ∃ x13, lI H5 (a1.add (i.toNat * 5)) x13 /\ ∃ x14, lI H5 ((a1.add (i.toNat * 5)).add 1) x14 /\ ∃ x15, lI H5 ((a1.add (i.toNat * 5)).add 2) x15 /\ ∃ x16, lI H5 ((a1.add (i.toNat * 5)).add 3) x16 /\ (
 (xA i x11 (fun a2 =>
 ∃ x17, lI H5 (a2.add (i.toNat * 4)) x17 /\ ∃ x18, lI H5 ((a2.add (i.toNat * 4)).add 1) x18 /\ ∃ x19, lI H5 ((a2.add (i.toNat * 4)).add 2) x19 /\ ∃ x20, lI H5 ((a2.add (i.toNat * 4)).add 3) x20 /\ (
 iteB (!((x13 == x17) && ((x14 == x18) && ((x15 == x19) && ((x16 == x20) && true))))) (
 R (.bool false) H5) (
 letV (i64.wrap (i + (1 : Int))) (fun i1 =>
 I_ i1 H5 /\ M_ i1 H5 < M_ i H5))))))))) (
 ∃ I_1 : Int -> HP, ∃ M_1 : Int -> HN, I_1 (0 : Int) H5 /\ (∀ i2 : Int, ∀ H6 : Heap, I_1 i2 H6 -> F_37_r3 R H l a I_1 M_1 i2 H6))
def F_37 (R : VP) (l : Sl) (h_0 : Int) (h_1 h_2 h_3 h_4 h_5 h_6 h_7 a : Sl) (H : Heap) : Prop :=
 letH (H.push (.cells #[vI h_0, vS h_1, vS h_2, vS h_3, vS h_4, vS h_5, vS h_6, vS h_7] t_27 (0, 0))) (fun H1 =>
 CallsH Tryz.prog n_52 #[vS l] H1 (fun v H2 =>
 ∃ x : Bool, v = .bool x /\ (
 iteB (!x) (
 R (.bool false) H2) (
 ∃ x1, lI H2 (aZ H) x1 /\ ∃ x2, lS H2 (aP H 1) x2 /\ ∃ x3, lS H2 (aP H 2) x3 /\ ∃ x4, lS H2 (aP H 3) x4 /\ ∃ x5, lS H2 (aP H 4) x5 /\ ∃ x6, lS H2 (aP H 5) x6 /\ ∃ x7, lS H2 (aP H 6) x7 /\ ∃ x8, lS H2 (aP H 7) x8 /\ (
 CallsH Tryz.prog n_61 #[gE x1 x2 x3 x4 x5 x6 x7 x8] H2 (fun v1 H3 =>
 ∃ x9 : Bool, v1 = .bool x9 /\ (
 iteB (!x9) (
 R (.bool false) H3) (
 ∃ x10, lS H3 (aP H 3) x10 /\ (
 CallsH Tryz.prog n_16 #[vS l, .bool (decide ((x10.n : Int) > (0 : Int)))] H3 (fun v2 H4 =>
 ∃ x11 : Sl, ∃ x12 : Int, v2 = .tuple #[vS x11, vI x12] /\ (
 iteB (x12 != (0 : Int)) (
 R (.bool false) H4) (
 iteB ((x11.n : Int) != (a.n : Int)) (
 R (.bool false) H4) (
 ∃ I_ : Int -> HP, ∃ M_ : Int -> HN, I_ (0 : Int) H4 /\ (∀ i : Int, ∀ H5 : Heap, I_ i H5 -> F_37_r4 R H l a x11 I_ M_ i H5))))))))))))))
theorem F_37_ok {R : VP} (l : Sl) (h_0 : Int) (h_1 h_2 h_3 h_4 h_5 h_6 h_7 a : Sl) {H : Heap} (h : F_37 R l h_0 h_1 h_2 h_3 h_4 h_5 h_6 h_7 a H) : CallsH Tryz.prog n_37 #[vS l, gE h_0 h_1 h_2 h_3 h_4 h_5 h_6 h_7, vS a] H R := wpF_ok Tryz.func37 (show wpF Tryz.prog Tryz.f37 [(9, vI 0), (10, vI 0), (12, vN), (14, vI 0)] [(19, [12], [0, 2, 4, 10, 11, 13])] [(7, [9], [0, 2, 4, 7]), (12, [10], [0, 2, 4]), (22, [14], [0, 2, 4, 10, 11, 13])] [9] _ H R = F_37 R l h_0 h_1 h_2 h_3 h_4 h_5 h_6 h_7 a H by kernel_rfl) h
def F_38_r1 (R : VP) (H : Heap) (l a needs : Sl) (n : Int) (I_1 : Int -> HP) (M_1 : Int -> HN) (p : Int) (H6 : Heap) (I_2 : Int -> HP) (M_2 : Int -> HN) (classv : Int) (H7 : Heap) : Prop :=
 iteB (decide (classv < (3 : Int))) (
 CallsH Tryz.prog n_78 #[vS l, vS a, .slice (some (aZ H)) ((needs.n : Int).toNat) ((needs.n : Int).toNat), vS needs, vI n, vI p, vI classv] H7 (fun v1 H8 =>
 ∃ x16 : Bool, v1 = .bool x16 /\ (
 iteB (!x16) (
 R (.tuple #[vN, .bool false]) H8) (
 letV (i64.wrap (classv + (1 : Int))) (fun classv1 =>
 I_2 classv1 H8 /\ M_2 classv1 H8 < M_2 classv H7))))) (
 letV (i64.wrap (p + (1 : Int))) (fun p1 =>
 I_1 p1 H7 /\ M_1 p1 H7 < M_1 p H6))
def F_38_r2 (R : VP) (H : Heap) (l a needs : Sl) (n : Int) (I_1 : Int -> HP) (M_1 : Int -> HN) (p : Int) (H6 : Heap) : Prop :=
 iteB (decide (p < (l.n : Int))) (
 ∃ I_2 : Int -> HP, ∃ M_2 : Int -> HN, I_2 (0 : Int) H6 /\ (∀ classv : Int, ∀ H7 : Heap, I_2 classv H7 -> F_38_r1 R H l a needs n I_1 M_1 p H6 I_2 M_2 classv H7)) (
 R (.tuple #[.slice (some (aZ H)) ((needs.n : Int).toNat) ((needs.n : Int).toNat), .bool true]) H6)
def F_38_r3 (R : VP) (H : Heap) (l a needs : Sl) (n : Int) (I_ : Int -> Int -> HP) (M_ : Int -> Int -> HN) (kept i : Int) (H2 : Heap) : Prop :=
 iteB (decide (i < (needs.n : Int))) (
 (xA i needs (fun a1 =>
 ∃ x, lI H2 (a1.add (i.toNat * 4)) x /\ ∃ x1, lI H2 ((a1.add (i.toNat * 4)).add 1) x1 /\ ∃ x2, lI H2 ((a1.add (i.toNat * 4)).add 2) x2 /\ ∃ x3, lI H2 ((a1.add (i.toNat * 4)).add 3) x3 /\ (
 0 <= i /\ i < (((needs.n : Int).toNat : Nat) : Int) /\ (okRow H2 ((aZ H).add (i.toNat * 5)) 4 /\ (
 letH (wrs H2 ((aZ H).add (i.toNat * 5)) [vI x, vI x1, vI x2, vI x3]) (fun H3 =>
 (xA i needs (fun a2 =>
 ∃ x4, lI H3 (a2.add (i.toNat * 4)) x4 /\ (
 iteB (decide (x4 < n)) (
 (xA i needs (fun a3 =>
 ∃ x5, lI H3 (a3.add (i.toNat * 4)) x5 /\ (
 (xA i needs (fun a4 =>
 ∃ x6, lI H3 ((a4.add (i.toNat * 4)).add 1) x6 /\ (
 CallsH Tryz.prog n_63 #[vS a, vI x5, vI x6] H3 (fun v H4 =>
 ∃ k : Int, v = vI k /\ (
 iteB (decide (k < (0 : Int))) (
 R (.tuple #[vN, .bool false]) H4) (
 (xA k a (fun a5 =>
 ∃ x7, lI H4 (a5.add (k.toNat * 5)) x7 /\ ∃ x8, lI H4 ((a5.add (k.toNat * 5)).add 1) x8 /\ ∃ x9, lI H4 ((a5.add (k.toNat * 5)).add 2) x9 /\ ∃ x10, lI H4 ((a5.add (k.toNat * 5)).add 3) x10 /\ (
 (xA i needs (fun a6 =>
 ∃ x11, lI H4 (a6.add (i.toNat * 4)) x11 /\ ∃ x12, lI H4 ((a6.add (i.toNat * 4)).add 1) x12 /\ ∃ x13, lI H4 ((a6.add (i.toNat * 4)).add 2) x13 /\ ∃ x14, lI H4 ((a6.add (i.toNat * 4)).add 3) x14 /\ (
 iteB (!((x7 == x11) && ((x8 == x12) && ((x9 == x13) && ((x10 == x14) && true))))) (
 R (.tuple #[vN, .bool false]) H4) (
 (xA k a (fun a7 =>
 ∃ x15, lU H4 ((a7.add (k.toNat * 5)).add 4) x15 /\ (
 0 <= i /\ i < (((needs.n : Int).toNat : Nat) : Int) /\ (okRow H4 (((aZ H).add (i.toNat * 5)).add 4) 1 /\ (
 letH (wrs H4 (((aZ H).add (i.toNat * 5)).add 4) [vU x15]) (fun H5 =>
 letV (i64.wrap (kept + (1 : Int))) (fun kept1 =>
 letV (i64.wrap (i + (1 : Int))) (fun i1 =>
 I_ kept1 i1 H5 /\ M_ kept1 i1 H5 < M_ kept i H2))))))))))))))))))))))))) (
 letV (i64.wrap (i + (1 : Int))) (fun i2 =>
 I_ kept i2 H3 /\ M_ kept i2 H3 < M_ kept i H2)))))))))))) (
 iteB (kept != (a.n : Int)) (
 R (.tuple #[vN, .bool false]) H2) (
 ∃ I_1 : Int -> HP, ∃ M_1 : Int -> HN, I_1 (0 : Int) H2 /\ (∀ p : Int, ∀ H6 : Heap, I_1 p H6 -> F_38_r2 R H l a needs n I_1 M_1 p H6)))
def F_38 (R : VP) (l a needs : Sl) (n : Int) (H : Heap) : Prop :=
 0 <= (needs.n : Int) /\ (needs.n : Int) <= (needs.n : Int) /\ (needs.n : Int) * ((40 : Nat) : Int) <= 281474976710656 /\ (
 letH (H.push (.cells (zeroRow (.agg #[vO, vO, vO, vO, vU (0 : Int)]) (needs.n : Int).toNat) t_32 (0, 0))) (fun H1 =>
 ∃ I_ : Int -> Int -> HP, ∃ M_ : Int -> Int -> HN, I_ (0 : Int) (0 : Int) H1 /\ (∀ kept i : Int, ∀ H2 : Heap, I_ kept i H2 -> F_38_r3 R H l a needs n I_ M_ kept i H2)))
theorem F_38_ok {R : VP} (l a needs : Sl) (n : Int) {H : Heap} (h : F_38 R l a needs n H) : CallsH Tryz.prog n_38 #[vS l, vS a, vS needs, vI n] H R := wpF_ok Tryz.func38 (show wpF Tryz.prog Tryz.f38 [(11, vI 0), (12, vI 0), (14, vI 0), (15, vI 0)] [] [(4, [11, 12], [0, 1, 2, 3, 10]), (16, [14], [0, 1, 2, 3, 10]), (19, [15], [0, 1, 2, 3, 10, 14])] [9] _ H R = F_38 R l a needs n H by kernel_rfl) h
def F_39_k1 (b : Sl) (I_1 : Sl -> Int -> HP) (M_1 : Sl -> Int -> HN) (out2 : Sl) (i : Int) (H5 : Heap) (f4 : Int) (x2 : Bool) (H7 : Heap) : Prop :=
 iteB x2 (
 (xA i b (fun a2 =>
 ∃ x3, lI H7 ((a2.add (i.toNat * 5)).add 1) x3 /\ (
 (xA i b (fun a3 =>
 ∃ x4, lU H7 ((a3.add (i.toNat * 5)).add 4) x4 /\ (
 letH (H7.push (.cells #[vI (2 : Int), vI f4, vI x3, vU x4] t_47 (0, 0))) (fun H8 =>
 runH Tryz.prog (Builtin.append_ #[t_37, t_37] t_37 #[vS out2, .slice (some (aZ H7)) 1 1]) H8 (fun v3 H9 =>
 ∃ out3 : Sl, v3 = vS out3 /\ (
 letV (i64.wrap (i + (1 : Int))) (fun i1 =>
 I_1 out3 i1 H9 /\ M_1 out3 i1 H9 < M_1 out2 i H5))))))))))) (
 letV (i64.wrap (i + (1 : Int))) (fun i2 =>
 I_1 out2 i2 H7 /\ M_1 out2 i2 H7 < M_1 out2 i H5))
def F_39_k2 (I_2 : Sl -> Int -> HP) (M_2 : Sl -> Int -> HN) (out4 : Sl) (f5 : Int) (H10 : Heap) (x6 : Bool) (H12 : Heap) : Prop :=
 iteB x6 (
 letH (H12.push (.cells #[vI (3 : Int), vI f5, vO, vU (0 : Int)] t_47 (0, 0))) (fun H13 =>
 runH Tryz.prog (Builtin.append_ #[t_37, t_37] t_37 #[vS out4, .slice (some (aZ H12)) 1 1]) H13 (fun v5 H14 =>
 ∃ out5 : Sl, v5 = vS out5 /\ (
 letV (i64.wrap (f5 + (1 : Int))) (fun f6 =>
 I_2 out5 f6 H14 /\ M_2 out5 f6 H14 < M_2 out4 f5 H10))))) (
 letV (i64.wrap (f5 + (1 : Int))) (fun f7 =>
 I_2 out4 f7 H12 /\ M_2 out4 f7 H12 < M_2 out4 f5 H10))
def F_39_r3 (R : VP) (a b : Sl) (n m : Int) (I_2 : Sl -> Int -> HP) (M_2 : Sl -> Int -> HN) (out4 : Sl) (f5 : Int) (H10 : Heap) : Prop :=
 iteB (decide (f5 < m)) (
 ∃ J_1 : Bool -> HP, (
 iteB (decide (f5 >= n)) (
 J_1 true H10) (
 CallsH Tryz.prog n_79 #[vS a, vS b, vI f5] H10 (fun v4 H11 =>
 ∃ x5 : Bool, v4 = .bool x5 /\ (
 J_1 x5 H11)))) /\ (∀ x6 : Bool, ∀ H12 : Heap, J_1 x6 H12 -> F_39_k2 I_2 M_2 out4 f5 H10 x6 H12)) (
 R (vS out4) H10)
def F_39_r4 (R : VP) (a b : Sl) (n m : Int) (I_1 : Sl -> Int -> HP) (M_1 : Sl -> Int -> HN) (out2 : Sl) (i : Int) (H5 : Heap) : Prop :=
 iteB (decide (i < (b.n : Int))) (
 (xA i b (fun a1 =>
 ∃ f4, lI H5 (a1.add (i.toNat * 5)) f4 /\ (
 ∃ J_ : Bool -> HP, (
 iteB (decide (f4 >= n)) (
 J_ true H5) (
 CallsH Tryz.prog n_79 #[vS a, vS b, vI f4] H5 (fun v2 H6 =>
 ∃ x1 : Bool, v2 = .bool x1 /\ (
 J_ x1 H6)))) /\ (∀ x2 : Bool, ∀ H7 : Heap, J_ x2 H7 -> F_39_k1 b I_1 M_1 out2 i H5 f4 x2 H7))))) (
 ∃ I_2 : Sl -> Int -> HP, ∃ M_2 : Sl -> Int -> HN, I_2 out2 (0 : Int) H5 /\ (∀ out4 : Sl, ∀ f5 : Int, ∀ H10 : Heap, I_2 out4 f5 H10 -> F_39_r3 R a b n m I_2 M_2 out4 f5 H10))
def F_39_r5 (R : VP) (a b : Sl) (n m : Int) (I_ : Sl -> Int -> HP) (M_ : Sl -> Int -> HN) (out : Sl) (f1 : Int) (H1 : Heap) : Prop :=
 iteB (decide (f1 >= (0 : Int))) (
 CallsH Tryz.prog n_79 #[vS a, vS b, vI f1] H1 (fun v H2 =>
 ∃ x : Bool, v = .bool x /\ (
 iteB x (
 letH (H2.push (.cells #[vI (1 : Int), vI f1, vO, vU (0 : Int)] t_47 (0, 0))) (fun H3 =>
 runH Tryz.prog (Builtin.append_ #[t_37, t_37] t_37 #[vS out, .slice (some (aZ H2)) 1 1]) H3 (fun v1 H4 =>
 ∃ out1 : Sl, v1 = vS out1 /\ (
 letV (i64.wrap (f1 - (1 : Int))) (fun f2 =>
 I_ out1 f2 H4 /\ M_ out1 f2 H4 < M_ out f1 H1))))) (
 letV (i64.wrap (f1 - (1 : Int))) (fun f3 =>
 I_ out f3 H2 /\ M_ out f3 H2 < M_ out f1 H1))))) (
 ∃ I_1 : Sl -> Int -> HP, ∃ M_1 : Sl -> Int -> HN, I_1 out (0 : Int) H1 /\ (∀ out2 : Sl, ∀ i : Int, ∀ H5 : Heap, I_1 out2 i H5 -> F_39_r4 R a b n m I_1 M_1 out2 i H5))
def F_39 (R : VP) (a b : Sl) (n m : Int) (H : Heap) : Prop :=
 letV (i64.wrap (n - (1 : Int))) (fun f =>
 ∃ I_ : Sl -> Int -> HP, ∃ M_ : Sl -> Int -> HN, I_ (Sl.mk none 0 0) f H /\ (∀ out : Sl, ∀ f1 : Int, ∀ H1 : Heap, I_ out f1 H1 -> F_39_r5 R a b n m I_ M_ out f1 H1))
theorem F_39_ok {R : VP} (a b : Sl) (n m : Int) {H : Heap} (h : F_39 R a b n m H) : CallsH Tryz.prog n_39 #[vS a, vS b, vI n, vI m] H R := wpF_ok Tryz.func39 (show wpF Tryz.prog Tryz.f39 [(9, vN), (10, vI 0), (11, vI 0), (13, vI 0), (49, .bool false), (79, .bool false)] [(12, [49], [0, 1, 2, 3, 9, 11, 12]), (17, [79], [0, 1, 2, 3, 9, 13])] [(3, [9, 10], [0, 1, 2, 3]), (8, [9, 11], [0, 1, 2, 3]), (14, [9, 13], [0, 1, 2, 3])] [9] _ H R = F_39 R a b n m H by kernel_rfl) h
def F_40 (R : VP) (present : Bool) (delay : Int) (H : Heap) : Prop :=
 iteB (decide (delay > (4294967296 : Int))) (
 R (.tuple #[.pointer none, vI (1 : Int)]) H) (
 letH (H.push (.cells #[vI (1 : Int), vU delay, vU (0 : Int)] t_141 (0, 0))) (fun H1 =>
 iteB present (
 okRow H1 (aZ H) 1 /\ (
 letH (wrs H1 (aZ H) [vI (2 : Int)]) (fun H2 =>
 R (.tuple #[.pointer (some (aZ H)), vO]) H2))) (
 R (.tuple #[.pointer (some (aZ H)), vO]) H1)))
theorem F_40_ok {R : VP} (present : Bool) (delay : Int) {H : Heap} (h : F_40 R present delay H) : CallsH Tryz.prog n_40 #[.bool present, vU delay] H R := wpF_ok Tryz.func40 (show wpF Tryz.prog Tryz.f40 [] [] [] [9] _ H R = F_40 R present delay H by kernel_rfl) h
def F_41_k1 (R : VP) (s : Addr) (now : Int) (x4 : Bool) (H2 : Heap) : Prop :=
 iteB x4 (
 ∃ x5, lU H2 (s.add 1) x5 /\ (
 CallsH Tryz.prog n_81 #[vU now, vU x5] H2 (fun v1 H3 =>
 ∃ x6 : Int, v1 = vU x6 /\ (
 okRow H3 (s.add 2) 1 /\ (
 letH (wrs H3 (s.add 2) [vU x6]) (fun H4 =>
 letH (H4.push (.cells #[vI (1 : Int)] t_3 (0, 0))) (fun H5 =>
 CallsH Tryz.prog n_80 #[.pointer (some s), vI (3 : Int), .slice (some (aZ H4)) 1 1] H5 (fun v2 H6 =>
 ∃ x7 : Sl, ∃ x8 : Int, v2 = .tuple #[vS x7, vI x8] /\ (
 R (.tuple #[vS x7, vI x8]) H6))))))))) (
 R (.tuple #[vN, vI (9 : Int)]) H2)
def F_41_k2 (R : VP) (s : Addr) (x23 : Bool) (H17 : Heap) : Prop :=
 iteB x23 (
 letH (H17.push (.cells #[vI (5 : Int), vI (2 : Int)] t_3 (0, 0))) (fun H18 =>
 CallsH Tryz.prog n_80 #[.pointer (some s), vI (1 : Int), .slice (some (aZ H17)) 2 2] H18 (fun v8 H19 =>
 ∃ x24 : Sl, ∃ x25 : Int, v8 = .tuple #[vS x24, vI x25] /\ (
 R (.tuple #[vS x24, vI x25]) H19)))) (
 R (.tuple #[vN, vI (9 : Int)]) H17)
def F_41_k3 (R : VP) (s : Addr) (x17 : Int) (x18 : Bool) (H13 : Heap) : Prop :=
 iteB x18 (
 CallsH Tryz.prog n_80 #[.pointer (some s), vI (1 : Int), vN] H13 (fun v6 H14 =>
 ∃ x19 : Sl, ∃ x20 : Int, v6 = .tuple #[vS x19, vI x20] /\ (
 R (.tuple #[vS x19, vI x20]) H14))) (
 iteB (x17 == (3 : Int)) (
 letH (H13.push (.cells #[vI (2 : Int)] t_3 (0, 0))) (fun H15 =>
 CallsH Tryz.prog n_80 #[.pointer (some s), vI (1 : Int), .slice (some (aZ H13)) 1 1] H15 (fun v7 H16 =>
 ∃ x21 : Sl, ∃ x22 : Int, v7 = .tuple #[vS x21, vI x22] /\ (
 R (.tuple #[vS x21, vI x22]) H16)))) (
 ∃ J_2 : Bool -> HP, (
 iteB (x17 == (4 : Int)) (
 J_2 true H13) (
 J_2 (x17 == (5 : Int)) H13)) /\ (∀ x23 : Bool, ∀ H17 : Heap, J_2 x23 H17 -> F_41_k2 R s x23 H17)))
def F_41_k4 (R : VP) (s : Addr) (x29 : Bool) (H22 : Heap) : Prop :=
 iteB x29 (
 letH (H22.push (.cells #[vI (5 : Int), vI (2 : Int)] t_3 (0, 0))) (fun H23 =>
 CallsH Tryz.prog n_80 #[.pointer (some s), vI (6 : Int), .slice (some (aZ H22)) 2 2] H23 (fun v10 H24 =>
 ∃ x30 : Sl, ∃ x31 : Int, v10 = .tuple #[vS x30, vI x31] /\ (
 R (.tuple #[vS x30, vI x31]) H24)))) (
 R (.tuple #[vN, vI (9 : Int)]) H22)
def F_41 (R : VP) (s : Addr) (event now : Int) (H : Heap) : Prop :=
 iteB (event == (1 : Int)) (
 ∃ x, lI H s x /\ (
 iteB (x == (1 : Int)) (
 CallsH Tryz.prog n_80 #[.pointer (some s), vI (2 : Int), vN] H (fun v H1 =>
 ∃ x1 : Sl, ∃ x2 : Int, v = .tuple #[vS x1, vI x2] /\ (
 R (.tuple #[vS x1, vI x2]) H1))) (
 R (.tuple #[vN, vI (9 : Int)]) H))) (
 iteB (event == (3 : Int)) (
 ∃ x3, lI H s x3 /\ (
 ∃ J_ : Bool -> HP, (
 iteB (x3 == (2 : Int)) (
 J_ true H) (
 J_ (x3 == (6 : Int)) H)) /\ (∀ x4 : Bool, ∀ H2 : Heap, J_ x4 H2 -> F_41_k1 R s now x4 H2))) (
 iteB (event == (4 : Int)) (
 ∃ x9, lI H s x9 /\ (
 iteB (x9 == (4 : Int)) (
 letH (H.push (.cells #[vI (4 : Int)] t_3 (0, 0))) (fun H7 =>
 CallsH Tryz.prog n_80 #[.pointer (some s), vI (5 : Int), .slice (some (aZ H)) 1 1] H7 (fun v3 H8 =>
 ∃ x10 : Sl, ∃ x11 : Int, v3 = .tuple #[vS x10, vI x11] /\ (
 R (.tuple #[vS x10, vI x11]) H8)))) (
 iteB (x9 == (3 : Int)) (
 letH (H.push (.cells #[vI (2 : Int)] t_3 (0, 0))) (fun H9 =>
 CallsH Tryz.prog n_80 #[.pointer (some s), vI (2 : Int), .slice (some (aZ H)) 1 1] H9 (fun v4 H10 =>
 ∃ x12 : Sl, ∃ x13 : Int, v4 = .tuple #[vS x12, vI x13] /\ (
 R (.tuple #[vS x12, vI x13]) H10)))) (
 R (.tuple #[vN, vI (9 : Int)]) H)))) (
 iteB (event == (5 : Int)) (
 ∃ x14, lI H s x14 /\ (
 iteB (x14 == (5 : Int)) (
 letH (H.push (.cells #[vI (5 : Int), vI (2 : Int)] t_3 (0, 0))) (fun H11 =>
 CallsH Tryz.prog n_80 #[.pointer (some s), vI (2 : Int), .slice (some (aZ H)) 2 2] H11 (fun v5 H12 =>
 ∃ x15 : Sl, ∃ x16 : Int, v5 = .tuple #[vS x15, vI x16] /\ (
 R (.tuple #[vS x15, vI x16]) H12)))) (
 R (.tuple #[vN, vI (9 : Int)]) H))) (
 iteB (event == (2 : Int)) (
 ∃ x17, lI H s x17 /\ (
 ∃ J_1 : Bool -> HP, (
 iteB (x17 == (2 : Int)) (
 J_1 true H) (
 J_1 (x17 == (6 : Int)) H)) /\ (∀ x18 : Bool, ∀ H13 : Heap, J_1 x18 H13 -> F_41_k3 R s x17 x18 H13))) (
 iteB (event == (6 : Int)) (
 ∃ x26, lI H s x26 /\ (
 iteB (x26 == (3 : Int)) (
 letH (H.push (.cells #[vI (2 : Int)] t_3 (0, 0))) (fun H20 =>
 CallsH Tryz.prog n_80 #[.pointer (some s), vI (6 : Int), .slice (some (aZ H)) 1 1] H20 (fun v9 H21 =>
 ∃ x27 : Sl, ∃ x28 : Int, v9 = .tuple #[vS x27, vI x28] /\ (
 R (.tuple #[vS x27, vI x28]) H21)))) (
 ∃ J_3 : Bool -> HP, (
 iteB (x26 == (4 : Int)) (
 J_3 true H) (
 J_3 (x26 == (5 : Int)) H)) /\ (∀ x29 : Bool, ∀ H22 : Heap, J_3 x29 H22 -> F_41_k4 R s x29 H22)))) (
 R (.tuple #[vN, vI (1 : Int)]) H))))))
theorem F_41_ok {R : VP} (s : Addr) (event now : Int) {H : Heap} (h : F_41 R s event now H) : CallsH Tryz.prog n_41 #[.pointer (some s), vI event, vU now] H R := wpF_ok Tryz.func41 (show wpF Tryz.prog Tryz.f41 [(26, .bool false), (81, .bool false), (95, .bool false), (116, .bool false)] [(10, [26], [0, 2]), (25, [81], [0, 80]), (30, [95], [0]), (37, [116], [0])] [] [9] _ H R = F_41 R s event now H by kernel_rfl) h
def F_42 (R : VP) (s : Addr) (now : Int) (H : Heap) : Prop :=
 ∃ x, lI H s x /\ (
 iteB (x != (3 : Int)) (
 R (vN) H) (
 ∃ x1, lU H (s.add 2) x1 /\ (
 iteB (decide (now < x1)) (
 R (vN) H) (
 letH (H.push (.cells #[vI (3 : Int)] t_3 (0, 0))) (fun H1 =>
 CallsH Tryz.prog n_80 #[.pointer (some s), vI (4 : Int), .slice (some (aZ H)) 1 1] H1 (fun v H2 =>
 ∃ x2 : Sl, ∃ x3 : Int, v = .tuple #[vS x2, vI x3] /\ (
 R (vS x2) H2)))))))
theorem F_42_ok {R : VP} (s : Addr) (now : Int) {H : Heap} (h : F_42 R s now H) : CallsH Tryz.prog n_42 #[.pointer (some s), vU now] H R := wpF_ok Tryz.func42 (show wpF Tryz.prog Tryz.f42 [] [] [] [9] _ H R = F_42 R s now H by kernel_rfl) h
def F_43_r1 (R : VP) (a b : Sl) (I_ : Int -> HP) (M_ : Int -> HN) (i : Int) (H1 : Heap) : Prop :=
 iteB (decide (i < (a.n : Int))) (
 (xA i a (fun a1 =>
 ∃ x, lI H1 (a1.add (i.toNat * 1)) x /\ (
 (xA i b (fun a2 =>
 ∃ x1, lI H1 (a2.add (i.toNat * 1)) x1 /\ (
 iteB (x != x1) (
 R (.bool false) H1) (
 letV (i64.wrap (i + (1 : Int))) (fun i1 =>
 I_ i1 H1 /\ M_ i1 H1 < M_ i H1))))))))) (
 R (.bool true) H1)
def F_43 (R : VP) (a b : Sl) (H : Heap) : Prop :=
 iteB ((a.n : Int) != (b.n : Int)) (
 R (.bool false) H) (
 ∃ I_ : Int -> HP, ∃ M_ : Int -> HN, I_ (0 : Int) H /\ (∀ i : Int, ∀ H1 : Heap, I_ i H1 -> F_43_r1 R a b I_ M_ i H1))
theorem F_43_ok {R : VP} (a b : Sl) {H : Heap} (h : F_43 R a b H) : CallsH Tryz.prog n_43 #[vS a, vS b] H R := wpF_ok Tryz.func43 (show wpF Tryz.prog Tryz.f43 [(5, vI 0)] [] [(4, [5], [0, 1])] [9] _ H R = F_43 R a b H by kernel_rfl) h
def F_44 (R : VP) (s : Addr) (H : Heap) : Prop :=
 ∃ x, lI H s x /\ (
 R (vI x) H)
theorem F_44_ok {R : VP} (s : Addr) {H : Heap} (h : F_44 R s H) : CallsH Tryz.prog n_44 #[.pointer (some s)] H R := wpF_ok Tryz.func44 (show wpF Tryz.prog Tryz.f44 [] [] [] [9] _ H R = F_44 R s H by kernel_rfl) h
def F_45_k1 (R : VP) (H : Heap) (I_ : Int -> HP) (M_ : Int -> HN) (x : Int) (H2 H6 : Heap) : Prop :=
 ∃ x29, lI H6 (aZ H2) x29 /\ (
 ∃ x30, lI H6 (aP H2 1) x30 /\ (
 letH (H6.push (.cells #[vO, vO] t_147 (0, 0))) (fun H7 =>
 okRow H7 (aZ H6) 2 /\ (
 letH (wrs H7 (aZ H6) [vI x29, vI x30]) (fun H8 =>
 ∃ x31, lI H8 (aZ H6) x31 /\ ∃ x32, lI H8 (aP H6 1) x32 /\ (
 runH Tryz.prog (Instr.lookup t_144 (.map (some H.size)) (.agg #[vI x31, vI x32]) false) H8 (fun v1 H9 =>
 ∃ x33 : Bool, v1 = .bool x33 /\ (
 iteB x33 (
 R (.bool false) H9) (
 ∃ x34, lI H9 (aZ H6) x34 /\ ∃ x35, lI H9 (aP H6 1) x35 /\ (
 runH Tryz.prog (Instr.mapUpdate t_144 (.map (some H.size)) (.agg #[vI x34, vI x35]) (.bool true)) H9 (fun _ H10 =>
 I_ (i64.wrap (x + (1 : Int))) H10 /\ M_ (i64.wrap (x + (1 : Int))) H10 < M_ x H2)))))))))))
def F_45_r2 (R : VP) (H : Heap) (l : Sl) (I_ : Int -> HP) (M_ : Int -> HN) (x : Int) (H2 : Heap) : Prop :=
 iteB (decide (x < (l.n : Int))) (
 (xA x l (fun a =>
 ∃ x1, lI H2 (a.add (x.toNat * 11)) x1 /\ ∃ x2, lI H2 ((a.add (x.toNat * 11)).add 1) x2 /\ ∃ x3, lI H2 ((a.add (x.toNat * 11)).add 2) x3 /\ ∃ x4, lI H2 ((a.add (x.toNat * 11)).add 3) x4 /\ ∃ x5, lB H2 ((a.add (x.toNat * 11)).add 4) x5 /\ ∃ x6, lB H2 ((a.add (x.toNat * 11)).add 5) x6 /\ ∃ x7, lB H2 ((a.add (x.toNat * 11)).add 6) x7 /\ ∃ x8, lI H2 ((a.add (x.toNat * 11)).add 7) x8 /\ ∃ x9, lI H2 ((a.add (x.toNat * 11)).add 8) x9 /\ ∃ x10, lI H2 ((a.add (x.toNat * 11)).add 9) x10 /\ ∃ x11, lS H2 ((a.add (x.toNat * 11)).add 10) x11 /\ (
 letH (H2.push (.cells #[vO, vO, vO, vO, .bool false, .bool false, .bool false, vO, vO, vO, vN] t_58 (0, 0))) (fun H3 =>
 okRow H3 (aZ H2) 11 /\ (
 letH (wrs H3 (aZ H2) [vI x1, vI x2, vI x3, vI x4, .bool x5, .bool x6, .bool x7, vI x8, vI x9, vI x10, vS x11]) (fun H4 =>
 ∃ x12, lI H4 (aZ H2) x12 /\ ∃ x13, lI H4 (aP H2 1) x13 /\ ∃ x14, lI H4 (aP H2 2) x14 /\ ∃ x15, lI H4 (aP H2 3) x15 /\ ∃ x16, lB H4 (aP H2 4) x16 /\ ∃ x17, lB H4 (aP H2 5) x17 /\ ∃ x18, lB H4 (aP H2 6) x18 /\ ∃ x19, lI H4 (aP H2 7) x19 /\ ∃ x20, lI H4 (aP H2 8) x20 /\ ∃ x21, lI H4 (aP H2 9) x21 /\ ∃ x22, lS H4 (aP H2 10) x22 /\ (
 CallsH Tryz.prog n_82 #[.agg #[vI x12, vI x13, vI x14, vI x15, .bool x16, .bool x17, .bool x18, vI x19, vI x20, vI x21, vS x22]] H4 (fun v H5 =>
 ∃ x23 : Bool, v = .bool x23 /\ (
 iteB (!x23) (
 R (.bool false) H5) (
 ∃ x24, lI H5 (aZ H2) x24 /\ (
 iteB (decide (x24 < (-1 : Int))) (
 R (.bool false) H5) (
 ∃ x25, lI H5 (aZ H2) x25 /\ (
 iteB (decide (x25 >= x)) (
 R (.bool false) H5) (
 ∃ J_ : HP, (
 ∃ x26, lI H5 (aZ H2) x26 /\ (
 iteB (decide (x26 >= (0 : Int))) (
 ∃ x27, lI H5 (aZ H2) x27 /\ (
 (xA x27 l (fun a1 =>
 ∃ x28, lB H5 ((a1.add (x27.toNat * 11)).add 4) x28 /\ (
 iteB (!x28) (
 R (.bool false) H5) (
 J_ H5)))))) (
 J_ H5))) /\ (∀ H6 : Heap, J_ H6 -> F_45_k1 R H I_ M_ x H2 H6)))))))))))))))) (
 R (.bool true) H2)
def F_45 (R : VP) (l : Sl) (H : Heap) : Prop :=
 iteB (decide ((l.n : Int) > (64 : Int))) (
 R (.bool false) H) (
 letH (H.push (.map #[] 0)) (fun H1 =>
 ∃ I_ : Int -> HP, ∃ M_ : Int -> HN, I_ (0 : Int) H1 /\ (∀ x : Int, ∀ H2 : Heap, I_ x H2 -> F_45_r2 R H l I_ M_ x H2)))
theorem F_45_ok {R : VP} (l : Sl) {H : Heap} (h : F_45 R l H) : CallsH Tryz.prog n_45 #[vS l] H R := wpF_ok Tryz.func45 (show wpF Tryz.prog Tryz.f45 [(13, vI 0)] [(11, [], [0, 3, 5, 11, 12, 13])] [(5, [13], [0, 3, 11, 12])] [9] _ H R = F_45 R l H by kernel_rfl) h
def F_46_r1 (R : VP) (H : Heap) (x19 : Sl) (I_1 : Int -> HP) (M_1 : Int -> HN) (x20 : Int) (H9 : Heap) : Prop :=
 iteB (decide (x20 < (x19.n : Int))) (
 (xA x20 x19 (fun a =>
 ∃ x21, lI H9 (a.add (x20.toNat * 3)) x21 /\ ∃ x22, lI H9 ((a.add (x20.toNat * 3)).add 1) x22 /\ ∃ x23, lI H9 ((a.add (x20.toNat * 3)).add 2) x23 /\ (
 letH (H9.push (.cells #[vO, vO, vO] t_116 (0, 0))) (fun H10 =>
 okRow H10 (aZ H9) 3 /\ (
 letH (wrs H10 (aZ H9) [vI x21, vI x22, vI x23]) (fun H11 =>
 ∃ x24, lI H11 (aZ H9) x24 /\ (
 iteB (decide (x24 < (0 : Int))) (
 R (.bool false) H11) (
 ∃ x25, lI H11 (aZ H9) x25 /\ (
 iteB (decide (x25 > (31 : Int))) (
 R (.bool false) H11) (
 ∃ x26, lI H11 (aP H9 1) x26 /\ (
 iteB (decide (x26 < (1 : Int))) (
 R (.bool false) H11) (
 ∃ x27, lI H11 (aP H9 1) x27 /\ (
 iteB (decide (x27 > (4 : Int))) (
 R (.bool false) H11) (
 ∃ x28, lI H11 (aP H9 2) x28 /\ (
 iteB (decide (x28 < (0 : Int))) (
 R (.bool false) H11) (
 ∃ x29, lI H11 (aP H9 2) x29 /\ (
 ∃ x30, lS H11 (aP H 6) x30 /\ (
 iteB (decide (x29 >= (x30.n : Int))) (
 R (.bool false) H11) (
 I_1 (i64.wrap (x20 + (1 : Int))) H11 /\ M_1 (i64.wrap (x20 + (1 : Int))) H11 < M_1 x20 H9)))))))))))))))))))) (
 R (.bool true) H9)
def F_46_r2 (R : VP) (H H1 : Heap) (I_ : Int -> HP) (M_ : Int -> HN) (x7 : Int) (H3 : Heap) : Prop :=
 iteB (decide (x7 < (5 : Int))) (
 0 <= x7 /\ x7 < (5 : Int) /\ (∃ l, lS H3 ((aZ H1).add (x7.toNat * 1)) l /\ (
 iteB (decide ((l.n : Int) > (16 : Int))) (
 R (.bool false) H3) (
 CallsH Tryz.prog n_83 #[vS l] H3 (fun v H4 =>
 ∃ x8 : Bool, v = .bool x8 /\ (
 iteB (!x8) (
 R (.bool false) H4) (
 I_ (i64.wrap (x7 + (1 : Int))) H4 /\ M_ (i64.wrap (x7 + (1 : Int))) H4 < M_ x7 H3))))))) (
 ∃ x9, lS H3 (aP H 1) x9 /\ (
 CallsH Tryz.prog n_84 #[vS x9, vU (0 : Int), vU (65536 : Int)] H3 (fun v1 H5 =>
 ∃ x10 : Bool, v1 = .bool x10 /\ (
 iteB (!x10) (
 R (.bool false) H5) (
 ∃ x11, lS H5 (aP H 4) x11 /\ (
 CallsH Tryz.prog n_84 #[vS x11, vU (0 : Int), vU (65536 : Int)] H5 (fun v2 H6 =>
 ∃ x12 : Bool, v2 = .bool x12 /\ (
 iteB (!x12) (
 R (.bool false) H6) (
 ∃ x13, lS H6 (aP H 2) x13 /\ (
 CallsH Tryz.prog n_84 #[vS x13, vU (0 : Int), vU (4294967296 : Int)] H6 (fun v3 H7 =>
 ∃ x14 : Bool, v3 = .bool x14 /\ (
 iteB (!x14) (
 R (.bool false) H7) (
 ∃ x15, lS H7 (aP H 3) x15 /\ (
 CallsH Tryz.prog n_84 #[vS x15, vU (4294967296 : Int), vU (4503599627370496 : Int)] H7 (fun v4 H8 =>
 ∃ x16 : Bool, v4 = .bool x16 /\ (
 iteB (!x16) (
 R (.bool false) H8) (
 ∃ x17, lS H8 (aP H 6) x17 /\ (
 iteB (decide ((x17.n : Int) > (16 : Int))) (
 R (.bool false) H8) (
 ∃ x18, lS H8 (aP H 7) x18 /\ (
 iteB (decide ((x18.n : Int) > (128 : Int))) (
 R (.bool false) H8) (
 ∃ x19, lS H8 (aP H 7) x19 /\ (
 ∃ I_1 : Int -> HP, ∃ M_1 : Int -> HN, I_1 (0 : Int) H8 /\ (∀ x20 : Int, ∀ H9 : Heap, I_1 x20 H9 -> F_46_r1 R H x19 I_1 M_1 x20 H9)))))))))))))))))))))))
def F_46 (R : VP) (h_0 : Int) (h_1 h_2 h_3 h_4 h_5 h_6 h_7 : Sl) (H : Heap) : Prop :=
 letH (H.push (.cells #[vI h_0, vS h_1, vS h_2, vS h_3, vS h_4, vS h_5, vS h_6, vS h_7] t_27 (0, 0))) (fun H1 =>
 ∃ x, lI H1 (aZ H) x /\ (
 iteB (decide (x < (1 : Int))) (
 R (.bool false) H1) (
 ∃ x1, lI H1 (aZ H) x1 /\ (
 iteB (decide (x1 > (256 : Int))) (
 R (.bool false) H1) (
 ∃ x2, lS H1 (aP H 1) x2 /\ (
 ∃ x3, lS H1 (aP H 2) x3 /\ (
 ∃ x4, lS H1 (aP H 3) x4 /\ (
 ∃ x5, lS H1 (aP H 4) x5 /\ (
 ∃ x6, lS H1 (aP H 5) x6 /\ (
 letH (H1.push (.cells #[vS x2, vS x3, vS x4, vS x5, vS x6] t_23 (0, 0))) (fun H2 =>
 ∃ I_ : Int -> HP, ∃ M_ : Int -> HN, I_ (0 : Int) H2 /\ (∀ x7 : Int, ∀ H3 : Heap, I_ x7 H3 -> F_46_r2 R H H1 I_ M_ x7 H3))))))))))))
theorem F_46_ok {R : VP} (h_0 : Int) (h_1 h_2 h_3 h_4 h_5 h_6 h_7 : Sl) {H : Heap} (h : F_46 R h_0 h_1 h_2 h_3 h_4 h_5 h_6 h_7 H) : CallsH Tryz.prog n_46 #[gE h_0 h_1 h_2 h_3 h_4 h_5 h_6 h_7] H R := wpF_ok Tryz.func46 (show wpF Tryz.prog Tryz.f46 [(27, vI 0), (73, vI 0)] [] [(4, [27], [1, 25, 26]), (16, [73], [1, 71, 72])] [9] _ H R = F_46 R h_0 h_1 h_2 h_3 h_4 h_5 h_6 h_7 H by kernel_rfl) h
def F_47_r1 (R : VP) (a x : Sl) (I_ : Int -> HP) (M_ : Int -> HN) (x2 : Int) (H2 : Heap) : Prop :=
 iteB (decide (x2 < (x.n : Int))) (
 (xA x2 x (fun a1 =>
 ∃ x3, lI H2 (a1.add (x2.toNat * 4)) x3 /\ ∃ x4, lI H2 ((a1.add (x2.toNat * 4)).add 1) x4 /\ ∃ x5, lI H2 ((a1.add (x2.toNat * 4)).add 2) x5 /\ ∃ x6, lI H2 ((a1.add (x2.toNat * 4)).add 3) x6 /\ (
 letH (H2.push (.cells #[vO, vO, vO, vO] t_29 (0, 0))) (fun H3 =>
 okRow H3 (aZ H2) 4 /\ (
 letH (wrs H3 (aZ H2) [vI x3, vI x4, vI x5, vI x6]) (fun H4 =>
 (xA x2 a (fun a2 =>
 ∃ x7, lI H4 (a2.add (x2.toNat * 5)) x7 /\ ∃ x8, lI H4 ((a2.add (x2.toNat * 5)).add 1) x8 /\ ∃ x9, lI H4 ((a2.add (x2.toNat * 5)).add 2) x9 /\ ∃ x10, lI H4 ((a2.add (x2.toNat * 5)).add 3) x10 /\ (
 ∃ x11, lI H4 (aZ H2) x11 /\ ∃ x12, lI H4 (aP H2 1) x12 /\ ∃ x13, lI H4 (aP H2 2) x13 /\ ∃ x14, lI H4 (aP H2 3) x14 /\ (
 iteB (!((x7 == x11) && ((x8 == x12) && ((x9 == x13) && ((x10 == x14) && true))))) (
 R (.bool false) H4) (
 I_ (i64.wrap (x2 + (1 : Int))) H4 /\ M_ (i64.wrap (x2 + (1 : Int))) H4 < M_ x2 H2)))))))))))) (
 R (.bool true) H2)
def F_47 (R : VP) (l : Sl) (high : Bool) (a : Sl) (H : Heap) : Prop :=
 CallsH Tryz.prog n_27 #[vS l, .bool high] H (fun v H1 =>
 ∃ x : Sl, ∃ x1 : Int, v = .tuple #[vS x, vI x1] /\ (
 iteB (x1 != (0 : Int)) (
 R (.bool false) H1) (
 iteB ((x.n : Int) != (a.n : Int)) (
 R (.bool false) H1) (
 ∃ I_ : Int -> HP, ∃ M_ : Int -> HN, I_ (0 : Int) H1 /\ (∀ x2 : Int, ∀ H2 : Heap, I_ x2 H2 -> F_47_r1 R a x I_ M_ x2 H2)))))
theorem F_47_ok {R : VP} (l : Sl) (high : Bool) (a : Sl) {H : Heap} (h : F_47 R l high a H) : CallsH Tryz.prog n_47 #[vS l, .bool high, vS a] H R := wpF_ok Tryz.func47 (show wpF Tryz.prog Tryz.f47 [(28, vI 0)] [] [(5, [28], [2, 26, 27])] [9] _ H R = F_47 R l high a H by kernel_rfl) h
def F_48 (R : VP) (h_0 : Int) (h_1 h_2 h_3 h_4 h_5 h_6 h_7 : Sl) (classv : Int) (H : Heap) : Prop :=
 letH (H.push (.cells #[vI h_0, vS h_1, vS h_2, vS h_3, vS h_4, vS h_5, vS h_6, vS h_7] t_27 (0, 0))) (fun H1 =>
 iteB (classv == (0 : Int)) (
 ∃ x, lS H1 (aP H 1) x /\ (
 ∃ x1, lS H1 (aP H 4) x1 /\ (
 CallsH Tryz.prog n_85 #[vS x, vS x1] H1 (fun v H2 =>
 ∃ x2 : Sl, v = vS x2 /\ (
 R (vS x2) H2))))) (
 iteB (classv == (1 : Int)) (
 ∃ x3, lS H1 (aP H 2) x3 /\ (
 ∃ x4, lS H1 (aP H 5) x4 /\ (
 CallsH Tryz.prog n_85 #[vS x3, vS x4] H1 (fun v1 H3 =>
 ∃ x5 : Sl, v1 = vS x5 /\ (
 R (vS x5) H3))))) (
 ∃ x6, lS H1 (aP H 3) x6 /\ (
 ∃ x7, lS H1 (aP H 5) x7 /\ (
 CallsH Tryz.prog n_85 #[vS x6, vS x7] H1 (fun v2 H4 =>
 ∃ x8 : Sl, v2 = vS x8 /\ (
 R (vS x8) H4)))))))
theorem F_48_ok {R : VP} (h_0 : Int) (h_1 h_2 h_3 h_4 h_5 h_6 h_7 : Sl) (classv : Int) {H : Heap} (h : F_48 R h_0 h_1 h_2 h_3 h_4 h_5 h_6 h_7 classv H) : CallsH Tryz.prog n_48 #[gE h_0 h_1 h_2 h_3 h_4 h_5 h_6 h_7, vI classv] H R := wpF_ok Tryz.func48 (show wpF Tryz.prog Tryz.f48 [] [] [] [9] _ H R = F_48 R h_0 h_1 h_2 h_3 h_4 h_5 h_6 h_7 classv H by kernel_rfl) h
def F_49_k1 (R : VP) (I_ : Int -> HP) (M_ : Int -> HN) (x : Int) (H1 : Heap) (x8 : Bool) (H4 : Heap) : Prop :=
 iteB x8 (
 ∃ x9, lU H4 (aP H1 4) x9 /\ (
 ∃ x10, lI H4 (aP H1 3) x10 /\ (
 0 <= x10 /\ (
 letV (u64.wrap ((1 : Int) * 2 ^ (min x10.toNat IntKind.u64.bits))) (fun x11 =>
 R (.tuple #[vU x9, vU x11, .bool true]) H4))))) (
 I_ (i64.wrap (x + (1 : Int))) H4 /\ M_ (i64.wrap (x + (1 : Int))) H4 < M_ x H1)
def F_49_r2 (R : VP) (a : Sl) (bridge classv : Int) (I_ : Int -> HP) (M_ : Int -> HN) (x : Int) (H1 : Heap) : Prop :=
 iteB (decide (x < (a.n : Int))) (
 (xA x a (fun a1 =>
 ∃ x1, lI H1 (a1.add (x.toNat * 5)) x1 /\ ∃ x2, lI H1 ((a1.add (x.toNat * 5)).add 1) x2 /\ ∃ x3, lI H1 ((a1.add (x.toNat * 5)).add 2) x3 /\ ∃ x4, lI H1 ((a1.add (x.toNat * 5)).add 3) x4 /\ ∃ x5, lU H1 ((a1.add (x.toNat * 5)).add 4) x5 /\ (
 letH (H1.push (.cells #[vO, vO, vO, vO, vU (0 : Int)] t_32 (0, 0))) (fun H2 =>
 okRow H2 (aZ H1) 5 /\ (
 letH (wrs H2 (aZ H1) [vI x1, vI x2, vI x3, vI x4, vU x5]) (fun H3 =>
 ∃ J_ : Bool -> HP, (
 ∃ x6, lI H3 (aZ H1) x6 /\ (
 iteB (x6 == bridge) (
 ∃ x7, lI H3 (aP H1 1) x7 /\ (
 J_ (x7 == (i64.wrap ((-1 : Int) - classv))) H3)) (
 J_ false H3))) /\ (∀ x8 : Bool, ∀ H4 : Heap, J_ x8 H4 -> F_49_k1 R I_ M_ x H1 x8 H4)))))))) (
 R (.tuple #[vU (0 : Int), vU (0 : Int), .bool false]) H1)
def F_49 (R : VP) (a : Sl) (bridge classv : Int) (H : Heap) : Prop :=
 ∃ I_ : Int -> HP, ∃ M_ : Int -> HN, I_ (0 : Int) H /\ (∀ x : Int, ∀ H1 : Heap, I_ x H1 -> F_49_r2 R a bridge classv I_ M_ x H1)
theorem F_49_ok {R : VP} (a : Sl) (bridge classv : Int) {H : Heap} (h : F_49 R a bridge classv H) : CallsH Tryz.prog n_49 #[vS a, vI bridge, vI classv] H R := wpF_ok Tryz.func49 (show wpF Tryz.prog Tryz.f49 [(13, vI 0), (29, .bool false)] [(5, [29], [1, 2, 10, 11, 12, 13])] [(2, [13], [1, 2, 11, 12])] [9] _ H R = F_49 R a bridge classv H by kernel_rfl) h
def F_50_r1 (R : VP) (l : Sl) (base size : Int) (I_ : Int -> HP) (M_ : Int -> HN) (x : Int) (H1 : Heap) : Prop :=
 iteB (decide (x < (l.n : Int))) (
 (xA x l (fun a =>
 ∃ x1, lU H1 (a.add (x.toNat * 2)) x1 /\ ∃ x2, lU H1 ((a.add (x.toNat * 2)).add 1) x2 /\ (
 letH (H1.push (.cells #[vU (0 : Int), vU (0 : Int)] t_95 (0, 0))) (fun H2 =>
 okRow H2 (aZ H1) 2 /\ (
 letH (wrs H2 (aZ H1) [vU x1, vU x2]) (fun H3 =>
 ∃ x3, lU H3 (aZ H1) x3 /\ (
 iteB (decide (base >= x3)) (
 ∃ x4, lU H3 (aP H1 1) x4 /\ (
 iteB (decide (size <= x4)) (
 ∃ x5, lU H3 (aZ H1) x5 /\ (
 ∃ x6, lU H3 (aP H1 1) x6 /\ (
 iteB (decide ((u64.wrap (base - x5)) <= (u64.wrap (x6 - size)))) (
 R (.bool true) H3) (
 I_ (i64.wrap (x + (1 : Int))) H3 /\ M_ (i64.wrap (x + (1 : Int))) H3 < M_ x H1)))) (
 I_ (i64.wrap (x + (1 : Int))) H3 /\ M_ (i64.wrap (x + (1 : Int))) H3 < M_ x H1))) (
 I_ (i64.wrap (x + (1 : Int))) H3 /\ M_ (i64.wrap (x + (1 : Int))) H3 < M_ x H1))))))))) (
 R (.bool false) H1)
def F_50 (R : VP) (l : Sl) (base size : Int) (H : Heap) : Prop :=
 ∃ I_ : Int -> HP, ∃ M_ : Int -> HN, I_ (0 : Int) H /\ (∀ x : Int, ∀ H1 : Heap, I_ x H1 -> F_50_r1 R l base size I_ M_ x H1)
theorem F_50_ok {R : VP} (l : Sl) (base size : Int) {H : Heap} (h : F_50 R l base size H) : CallsH Tryz.prog n_50 #[vS l, vU base, vU size] H R := wpF_ok Tryz.func50 (show wpF Tryz.prog Tryz.f50 [(11, vI 0)] [] [(2, [11], [1, 2, 9, 10])] [9] _ H R = F_50 R l base size H by kernel_rfl) h
def F_51_k1 (R : VP) (H H1 H5 : Heap) : Prop :=
 ∃ x12, lU H5 (aP H 4) x12 /\ (
 ∃ x13, lU H5 (aP H1 4) x13 /\ (
 ∃ x14, lI H5 (aP H1 3) x14 /\ (
 0 <= x14 /\ (
 R (.bool (decide ((u64.wrap (x12 - x13)) < (u64.wrap ((1 : Int) * 2 ^ (min x14.toNat IntKind.u64.bits)))))) H5))))
def F_51 (R : VP) (x_0 x_1 x_2 x_3 x_4 y_0 y_1 y_2 y_3 y_4 : Int) (H : Heap) : Prop :=
 letH (H.push (.cells #[vI x_0, vI x_1, vI x_2, vI x_3, vU x_4] t_32 (0, 0))) (fun H1 =>
 letH (H1.push (.cells #[vI y_0, vI y_1, vI y_2, vI y_3, vU y_4] t_32 (0, 0))) (fun H2 =>
 ∃ J_ : HP, (
 ∃ x, lU H2 (aP H 4) x /\ (
 ∃ x1, lU H2 (aP H1 4) x1 /\ (
 iteB (decide (x < x1)) (
 ∃ x2, lI H2 (aZ H1) x2 /\ ∃ x3, lI H2 (aP H1 1) x3 /\ ∃ x4, lI H2 (aP H1 2) x4 /\ ∃ x5, lI H2 (aP H1 3) x5 /\ ∃ x6, lU H2 (aP H1 4) x6 /\ (
 ∃ x7, lI H2 (aZ H) x7 /\ ∃ x8, lI H2 (aP H 1) x8 /\ ∃ x9, lI H2 (aP H 2) x9 /\ ∃ x10, lI H2 (aP H 3) x10 /\ ∃ x11, lU H2 (aP H 4) x11 /\ (
 okRow H2 (aZ H) 5 /\ (
 letH (wrs H2 (aZ H) [vI x2, vI x3, vI x4, vI x5, vU x6]) (fun H3 =>
 okRow H3 (aZ H1) 5 /\ (
 letH (wrs H3 (aZ H1) [vI x7, vI x8, vI x9, vI x10, vU x11]) (fun H4 =>
 J_ H4))))))) (
 J_ H2)))) /\ (∀ H5 : Heap, J_ H5 -> F_51_k1 R H H1 H5)))
theorem F_51_ok {R : VP} (x_0 x_1 x_2 x_3 x_4 y_0 y_1 y_2 y_3 y_4 : Int) {H : Heap} (h : F_51 R x_0 x_1 x_2 x_3 x_4 y_0 y_1 y_2 y_3 y_4 H) : CallsH Tryz.prog n_51 #[.agg #[vI x_0, vI x_1, vI x_2, vI x_3, vU x_4], .agg #[vI y_0, vI y_1, vI y_2, vI y_3, vU y_4]] H R := wpF_ok Tryz.func51 (show wpF Tryz.prog Tryz.f51 [] [(3, [], [2, 3])] [] [9] _ H R = F_51 R x_0 x_1 x_2 x_3 x_4 y_0 y_1 y_2 y_3 y_4 H by kernel_rfl) h
def F_52_r1 (R : VP) (l : Sl) (I_ : Int -> HP) (M_ : Int -> HN) (i : Int) (H1 : Heap) (I_1 : Int -> HP) (M_1 : Int -> HN) (k : Int) (H4 : Heap) : Prop :=
 iteB (decide (k < i)) (
 (xA k l (fun a6 =>
 ∃ x17, lI H4 (a6.add (k.toNat * 11)) x17 /\ (
 (xA i l (fun a7 =>
 ∃ x18, lI H4 (a7.add (i.toNat * 11)) x18 /\ (
 iteB (x17 == x18) (
 (xA k l (fun a8 =>
 ∃ x19, lI H4 ((a8.add (k.toNat * 11)).add 1) x19 /\ (
 (xA i l (fun a9 =>
 ∃ x20, lI H4 ((a9.add (i.toNat * 11)).add 1) x20 /\ (
 iteB (x19 == x20) (
 R (.bool false) H4) (
 letV (i64.wrap (k + (1 : Int))) (fun k1 =>
 I_1 k1 H4 /\ M_1 k1 H4 < M_1 k H4))))))))) (
 letV (i64.wrap (k + (1 : Int))) (fun k2 =>
 I_1 k2 H4 /\ M_1 k2 H4 < M_1 k H4))))))))) (
 letV (i64.wrap (i + (1 : Int))) (fun i1 =>
 I_ i1 H4 /\ M_ i1 H4 < M_ i H1))
def F_52_k2 (R : VP) (l : Sl) (I_ : Int -> HP) (M_ : Int -> HN) (i : Int) (H1 H3 : Heap) : Prop :=
 ∃ I_1 : Int -> HP, ∃ M_1 : Int -> HN, I_1 (0 : Int) H3 /\ (∀ k : Int, ∀ H4 : Heap, I_1 k H4 -> F_52_r1 R l I_ M_ i H1 I_1 M_1 k H4)
def F_52_r3 (R : VP) (l : Sl) (I_ : Int -> HP) (M_ : Int -> HN) (i : Int) (H1 : Heap) : Prop :=
 iteB (decide (i < (l.n : Int))) (
 ∃ J_ : HP, (
 (xA i l (fun a =>
 ∃ x, lI H1 (a.add (i.toNat * 11)) x /\ ∃ x1, lI H1 ((a.add (i.toNat * 11)).add 1) x1 /\ ∃ x2, lI H1 ((a.add (i.toNat * 11)).add 2) x2 /\ ∃ x3, lI H1 ((a.add (i.toNat * 11)).add 3) x3 /\ ∃ x4, lB H1 ((a.add (i.toNat * 11)).add 4) x4 /\ ∃ x5, lB H1 ((a.add (i.toNat * 11)).add 5) x5 /\ ∃ x6, lB H1 ((a.add (i.toNat * 11)).add 6) x6 /\ ∃ x7, lI H1 ((a.add (i.toNat * 11)).add 7) x7 /\ ∃ x8, lI H1 ((a.add (i.toNat * 11)).add 8) x8 /\ ∃ x9, lI H1 ((a.add (i.toNat * 11)).add 9) x9 /\ ∃ x10, lS H1 ((a.add (i.toNat * 11)).add 10) x10 /\ (
 CallsH Tryz.prog n_86 #[.agg #[vI x, vI x1, vI x2, vI x3, .bool x4, .bool x5, .bool x6, vI x7, vI x8, vI x9, vS x10]] H1 (fun v H2 =>
 ∃ x11 : Bool, v = .bool x11 /\ (
 iteB (!x11) (
 R (.bool false) H2) (
 (xA i l (fun a1 =>
 ∃ x12, lI H2 (a1.add (i.toNat * 11)) x12 /\ (
 iteB (decide (x12 < (-1 : Int))) (
 R (.bool false) H2) (
 (xA i l (fun a2 =>
 ∃ x13, lI H2 (a2.add (i.toNat * 11)) x13 /\ (
 iteB (decide (x13 >= i)) (
 R (.bool false) H2) (
 (xA i l (fun a3 =>
 ∃ x14, lI H2 (a3.add (i.toNat * 11)) x14 /\ (
 iteB (decide (x14 >= (0 : Int))) (
 (xA i l (fun a4 =>
 ∃ x15, lI H2 (a4.add (i.toNat * 11)) x15 /\ (
 (xA x15 l (fun a5 =>
 ∃ x16, lB H2 ((a5.add (x15.toNat * 11)).add 4) x16 /\ (
 iteB (!x16) (
 R (.bool false) H2) (
 J_ H2)))))))) (
 J_ H2))))))))))))))))))) /\ (∀ H3 : Heap, J_ H3 -> F_52_k2 R l I_ M_ i H1 H3)) (
 R (.bool true) H1)
def F_52 (R : VP) (l : Sl) (H : Heap) : Prop :=
 iteB (decide ((l.n : Int) > (64 : Int))) (
 R (.bool false) H) (
 ∃ I_ : Int -> HP, ∃ M_ : Int -> HN, I_ (0 : Int) H /\ (∀ i : Int, ∀ H1 : Heap, I_ i H1 -> F_52_r3 R l I_ M_ i H1))
theorem F_52_ok {R : VP} (l : Sl) {H : Heap} (h : F_52 R l H) : CallsH Tryz.prog n_52 #[vS l] H R := wpF_ok Tryz.func52 (show wpF Tryz.prog Tryz.f52 [(3, vI 0), (4, vI 0)] [(8, [], [0, 3])] [(4, [3], [0]), (9, [4], [0, 3])] [9] _ H R = F_52 R l H by kernel_rfl) h
def F_53 (R : VP) (l : Sl) (high : Bool) (i k : Int) (H : Heap) : Prop :=
 CallsH Tryz.prog n_52 #[vS l] H (fun v H1 =>
 ∃ x : Bool, v = .bool x /\ (
 iteB (!x) (
 R (.tuple #[vO, .bool false]) H1) (
 iteB (decide (i < (0 : Int))) (
 R (.tuple #[vO, .bool false]) H1) (
 iteB (decide (i >= (l.n : Int))) (
 R (.tuple #[vO, .bool false]) H1) (
 (xA i l (fun a =>
 ∃ x1, lI H1 (a.add (i.toNat * 11)) x1 /\ ∃ x2, lI H1 ((a.add (i.toNat * 11)).add 1) x2 /\ ∃ x3, lI H1 ((a.add (i.toNat * 11)).add 2) x3 /\ ∃ x4, lI H1 ((a.add (i.toNat * 11)).add 3) x4 /\ ∃ x5, lB H1 ((a.add (i.toNat * 11)).add 4) x5 /\ ∃ x6, lB H1 ((a.add (i.toNat * 11)).add 5) x6 /\ ∃ x7, lB H1 ((a.add (i.toNat * 11)).add 6) x7 /\ ∃ x8, lI H1 ((a.add (i.toNat * 11)).add 7) x8 /\ ∃ x9, lI H1 ((a.add (i.toNat * 11)).add 8) x9 /\ ∃ x10, lI H1 ((a.add (i.toNat * 11)).add 9) x10 /\ ∃ x11, lS H1 ((a.add (i.toNat * 11)).add 10) x11 /\ (
 CallsH Tryz.prog n_87 #[.agg #[vI x1, vI x2, vI x3, vI x4, .bool x5, .bool x6, .bool x7, vI x8, vI x9, vI x10, vS x11], vI k] H1 (fun v1 H2 =>
 ∃ x12 x13 : Int, v1 = .agg #[vI x12, vI x13] /\ (
 iteB (x12 == (0 : Int)) (
 R (.tuple #[vO, .bool false]) H2) (
 (xA i l (fun a1 =>
 ∃ x14, lI H2 (a1.add (i.toNat * 11)) x14 /\ ∃ x15, lI H2 ((a1.add (i.toNat * 11)).add 1) x15 /\ ∃ x16, lI H2 ((a1.add (i.toNat * 11)).add 2) x16 /\ ∃ x17, lI H2 ((a1.add (i.toNat * 11)).add 3) x17 /\ ∃ x18, lB H2 ((a1.add (i.toNat * 11)).add 4) x18 /\ ∃ x19, lB H2 ((a1.add (i.toNat * 11)).add 5) x19 /\ ∃ x20, lB H2 ((a1.add (i.toNat * 11)).add 6) x20 /\ ∃ x21, lI H2 ((a1.add (i.toNat * 11)).add 7) x21 /\ ∃ x22, lI H2 ((a1.add (i.toNat * 11)).add 8) x22 /\ ∃ x23, lI H2 ((a1.add (i.toNat * 11)).add 9) x23 /\ ∃ x24, lS H2 ((a1.add (i.toNat * 11)).add 10) x24 /\ (
 CallsH Tryz.prog n_87 #[.agg #[vI x14, vI x15, vI x16, vI x17, .bool x18, .bool x19, .bool x20, vI x21, vI x22, vI x23, vS x24], vI k] H2 (fun v2 H3 =>
 ∃ x25 x26 : Int, v2 = .agg #[vI x25, vI x26] /\ (
 iteB (x25 == (1 : Int)) (
 R (.tuple #[vO, .bool true]) H3) (
 (xA i l (fun a2 =>
 ∃ x27, lI H3 (a2.add (i.toNat * 11)) x27 /\ ∃ x28, lI H3 ((a2.add (i.toNat * 11)).add 1) x28 /\ ∃ x29, lI H3 ((a2.add (i.toNat * 11)).add 2) x29 /\ ∃ x30, lI H3 ((a2.add (i.toNat * 11)).add 3) x30 /\ ∃ x31, lB H3 ((a2.add (i.toNat * 11)).add 4) x31 /\ ∃ x32, lB H3 ((a2.add (i.toNat * 11)).add 5) x32 /\ ∃ x33, lB H3 ((a2.add (i.toNat * 11)).add 6) x33 /\ ∃ x34, lI H3 ((a2.add (i.toNat * 11)).add 7) x34 /\ ∃ x35, lI H3 ((a2.add (i.toNat * 11)).add 8) x35 /\ ∃ x36, lI H3 ((a2.add (i.toNat * 11)).add 9) x36 /\ ∃ x37, lS H3 ((a2.add (i.toNat * 11)).add 10) x37 /\ (
 CallsH Tryz.prog n_87 #[.agg #[vI x27, vI x28, vI x29, vI x30, .bool x31, .bool x32, .bool x33, vI x34, vI x35, vI x36, vS x37], vI k] H3 (fun v3 H4 =>
 ∃ x38 x39 : Int, v3 = .agg #[vI x38, vI x39] /\ (
 iteB (x38 == (4 : Int)) (
 iteB high (
 CallsH Tryz.prog n_88 #[vS l, vI i] H4 (fun v4 H5 =>
 ∃ x40 : Bool, v4 = .bool x40 /\ (
 iteB x40 (
 R (.tuple #[vI (2 : Int), .bool true]) H5) (
 R (.tuple #[vI (1 : Int), .bool true]) H5)))) (
 R (.tuple #[vI (1 : Int), .bool true]) H4)) (
 R (.tuple #[vI (1 : Int), .bool true]) H4)))))))))))))))))))))))
theorem F_53_ok {R : VP} (l : Sl) (high : Bool) (i k : Int) {H : Heap} (h : F_53 R l high i k H) : CallsH Tryz.prog n_53 #[vS l, .bool high, vI i, vI k] H R := wpF_ok Tryz.func53 (show wpF Tryz.prog Tryz.f53 [] [] [] [9] _ H R = F_53 R l high i k H by kernel_rfl) h
def F_54_k1 (needs : Sl) (I_ : Sl -> Int -> HP) (M_ : Sl -> Int -> HN) (sizes : Sl) (k : Int) (H1 : Heap) (x3 : Bool) (H2 : Heap) : Prop :=
 iteB x3 (
 (xA k needs (fun a3 =>
 ∃ x4, lI H2 ((a3.add (k.toNat * 4)).add 3) x4 /\ (
 letH (H2.push (.cells #[vI x4] t_3 (0, 0))) (fun H3 =>
 runH Tryz.prog (Builtin.append_ #[t_52, t_52] t_52 #[vS sizes, .slice (some (aZ H2)) 1 1]) H3 (fun v H4 =>
 ∃ sizes1 : Sl, v = vS sizes1 /\ (
 letV (i64.wrap (k + (1 : Int))) (fun k1 =>
 I_ sizes1 k1 H4 /\ M_ sizes1 k1 H4 < M_ sizes k H1)))))))) (
 letV (i64.wrap (k + (1 : Int))) (fun k2 =>
 I_ sizes k2 H2 /\ M_ sizes k2 H2 < M_ sizes k H1))
def F_54_k2 (R : VP) (l : Sl) (i classv : Int) (sizes : Sl) (H7 : Heap) : Prop :=
 (xA i l (fun a6 =>
 ∃ x8, lB H7 ((a6.add (i.toNat * 11)).add 6) x8 /\ (
 CallsH Tryz.prog n_89 #[vS sizes, vI classv, .bool x8] H7 (fun v2 H8 =>
 ∃ x9 : Int, ∃ x10 : Bool, v2 = .tuple #[vI x9, .bool x10] /\ (
 R (.tuple #[vI x9, .bool x10]) H8)))))
def F_54_k3 (R : VP) (l : Sl) (i classv : Int) (sizes : Sl) (port : Bool) (H6 : Heap) : Prop :=
 ∃ J_2 : HP, (
 iteB ((sizes.n : Int) == (0 : Int)) (
 iteB (!port) (
 R (.tuple #[vO, .bool false]) H6) (
 J_2 H6)) (
 J_2 H6)) /\ (∀ H7 : Heap, J_2 H7 -> F_54_k2 R l i classv sizes H7)
def F_54_r4 (R : VP) (l : Sl) (high : Bool) (i classv : Int) (needs : Sl) (I_ : Sl -> Int -> HP) (M_ : Sl -> Int -> HN) (sizes : Sl) (k : Int) (H1 : Heap) : Prop :=
 iteB (decide (k < (needs.n : Int))) (
 ∃ J_ : Bool -> HP, (
 (xA k needs (fun a =>
 ∃ x, lI H1 ((a.add (k.toNat * 4)).add 2) x /\ (
 iteB (x == classv) (
 (xA k needs (fun a1 =>
 ∃ x1, lI H1 (a1.add (k.toNat * 4)) x1 /\ (
 (xA x1 l (fun a2 =>
 ∃ x2, lI H1 (a2.add (x1.toNat * 11)) x2 /\ (
 J_ (x2 == i) H1))))))) (
 J_ false H1))))) /\ (∀ x3 : Bool, ∀ H2 : Heap, J_ x3 H2 -> F_54_k1 needs I_ M_ sizes k H1 x3 H2)) (
 ∃ J_1 : Bool -> HP, (
 (xA i l (fun a4 =>
 ∃ x5, lB H1 ((a4.add (i.toNat * 11)).add 6) x5 /\ (
 iteB x5 (
 iteB (classv != (2 : Int)) (
 J_1 true H1) (
 iteB high (
 (xA i l (fun a5 =>
 ∃ x6, lB H1 ((a5.add (i.toNat * 11)).add 5) x6 /\ (
 iteB x6 (
 CallsH Tryz.prog n_88 #[vS l, vI i] H1 (fun v1 H5 =>
 ∃ x7 : Bool, v1 = .bool x7 /\ (
 J_1 x7 H5))) (
 J_1 false H1))))) (
 J_1 false H1))) (
 J_1 false H1))))) /\ (∀ port : Bool, ∀ H6 : Heap, J_1 port H6 -> F_54_k3 R l i classv sizes port H6))
def F_54 (R : VP) (l : Sl) (high : Bool) (i classv : Int) (needs : Sl) (H : Heap) : Prop :=
 ∃ I_ : Sl -> Int -> HP, ∃ M_ : Sl -> Int -> HN, I_ (Sl.mk none 0 0) (0 : Int) H /\ (∀ sizes : Sl, ∀ k : Int, ∀ H1 : Heap, I_ sizes k H1 -> F_54_r4 R l high i classv needs I_ M_ sizes k H1)
theorem F_54_ok {R : VP} (l : Sl) (high : Bool) (i classv : Int) (needs : Sl) {H : Heap} (h : F_54 R l high i classv needs H) : CallsH Tryz.prog n_54 #[vS l, .bool high, vI i, vI classv, vS needs] H R := wpF_ok Tryz.func54 (show wpF Tryz.prog Tryz.f54 [(12, vN), (13, vI 0), (14, .bool false), (40, .bool false)] [(6, [40], [0, 1, 2, 3, 4, 12, 13]), (8, [14], [0, 2, 3, 12]), (10, [], [0, 2, 3, 12])] [(3, [12, 13], [0, 1, 2, 3, 4])] [9] _ H R = F_54 R l high i classv needs H by kernel_rfl) h
def F_55_r1 (R : VP) (sizes : Sl) (I_ : Int -> HP) (M_ : Int -> HN) (x1 : Int) (H2 : Heap) : Prop :=
 iteB (decide (x1 < (sizes.n : Int))) (
 (xA x1 sizes (fun a =>
 ∃ size, lI H2 (a.add (x1.toNat * 1)) size /\ (
 iteB (decide (size < (0 : Int))) (
 R (.bool false) H2) (
 iteB (decide (size > (44 : Int))) (
 R (.bool false) H2) (
 I_ (i64.wrap (x1 + (1 : Int))) H2 /\ M_ (i64.wrap (x1 + (1 : Int))) H2 < M_ x1 H2)))))) (
 R (.bool true) H2)
def F_55 (R : VP) (free sizes : Sl) (H : Heap) : Prop :=
 CallsH Tryz.prog n_83 #[vS free] H (fun v H1 =>
 ∃ x : Bool, v = .bool x /\ (
 iteB (!x) (
 R (.bool false) H1) (
 iteB (decide ((sizes.n : Int) > (1024 : Int))) (
 R (.bool false) H1) (
 ∃ I_ : Int -> HP, ∃ M_ : Int -> HN, I_ (0 : Int) H1 /\ (∀ x1 : Int, ∀ H2 : Heap, I_ x1 H2 -> F_55_r1 R sizes I_ M_ x1 H2)))))
theorem F_55_ok {R : VP} (free sizes : Sl) {H : Heap} (h : F_55 R free sizes H) : CallsH Tryz.prog n_55 #[vS free, vS sizes] H R := wpF_ok Tryz.func55 (show wpF Tryz.prog Tryz.f55 [(17, vI 0)] [] [(4, [17], [15, 16])] [9] _ H R = F_55 R free sizes H by kernel_rfl) h
def F_56_r1 (R : VP) (sizes : Sl) (k : Int) (I_ : Int -> Int -> HP) (M_ : Int -> Int -> HN) (sum x : Int) (H1 : Heap) : Prop :=
 iteB (decide (x < (sizes.n : Int))) (
 (xA x sizes (fun a =>
 ∃ size, lI H1 (a.add (x.toNat * 1)) size /\ (
 iteB (decide (size >= k)) (
 0 <= size /\ (
 letV (u64.wrap (sum + (u64.wrap ((1 : Int) * 2 ^ (min size.toNat IntKind.u64.bits))))) (fun sum1 =>
 I_ sum1 (i64.wrap (x + (1 : Int))) H1 /\ M_ sum1 (i64.wrap (x + (1 : Int))) H1 < M_ sum x H1))) (
 I_ sum (i64.wrap (x + (1 : Int))) H1 /\ M_ sum (i64.wrap (x + (1 : Int))) H1 < M_ sum x H1))))) (
 R (vU sum) H1)
def F_56 (R : VP) (sizes : Sl) (k : Int) (H : Heap) : Prop :=
 ∃ I_ : Int -> Int -> HP, ∃ M_ : Int -> Int -> HN, I_ (0 : Int) (0 : Int) H /\ (∀ sum x : Int, ∀ H1 : Heap, I_ sum x H1 -> F_56_r1 R sizes k I_ M_ sum x H1)
theorem F_56_ok {R : VP} (sizes : Sl) (k : Int) {H : Heap} (h : F_56 R sizes k H) : CallsH Tryz.prog n_56 #[vS sizes, vI k] H R := wpF_ok Tryz.func56 (show wpF Tryz.prog Tryz.f56 [(5, vU 0), (10, vI 0)] [] [(3, [5, 10], [1, 8, 9])] [9] _ H R = F_56 R sizes k H by kernel_rfl) h
def F_58_r1 (R : VP) (fixed : Sl) (I_ : Sl -> Int -> HP) (M_ : Sl -> Int -> HN) (free1 : Sl) (i : Int) (H4 : Heap) : Prop :=
 iteB (decide (i < (fixed.n : Int))) (
 (xA i fixed (fun a =>
 ∃ x2, lU H4 (a.add (i.toNat * 2)) x2 /\ ∃ x3, lU H4 ((a.add (i.toNat * 2)).add 1) x3 /\ (
 CallsH Tryz.prog n_94 #[vS free1, .agg #[vU x2, vU x3]] H4 (fun v3 H5 =>
 ∃ free2 : Sl, v3 = vS free2 /\ (
 letV (i64.wrap (i + (1 : Int))) (fun i1 =>
 I_ free2 i1 H5 /\ M_ free2 i1 H5 < M_ free1 i H4))))))) (
 R (vS free1) H4)
def F_58 (R : VP) (l fixed : Sl) (H : Heap) : Prop :=
 CallsH Tryz.prog n_92 #[vS l] H (fun v H1 =>
 ∃ x : Bool, v = .bool x /\ (
 iteB (!x) (
 R (vN) H1) (
 CallsH Tryz.prog n_92 #[vS fixed] H1 (fun v1 H2 =>
 ∃ x1 : Bool, v1 = .bool x1 /\ (
 iteB (!x1) (
 R (vN) H2) (
 CallsH Tryz.prog n_93 #[vS l] H2 (fun v2 H3 =>
 ∃ free : Sl, v2 = vS free /\ (
 ∃ I_ : Sl -> Int -> HP, ∃ M_ : Sl -> Int -> HN, I_ free (0 : Int) H3 /\ (∀ free1 : Sl, ∀ i : Int, ∀ H4 : Heap, I_ free1 i H4 -> F_58_r1 R fixed I_ M_ free1 i H4)))))))))
theorem F_58_ok {R : VP} (l fixed : Sl) {H : Heap} (h : F_58 R l fixed H) : CallsH Tryz.prog n_58 #[vS l, vS fixed] H R := wpF_ok Tryz.func58 (show wpF Tryz.prog Tryz.f58 [(5, vN), (6, vI 0)] [] [(5, [5, 6], [1])] [9] _ H R = F_58 R l fixed H by kernel_rfl) h
def F_59_k1 (n : Int) (J_ : Int -> HP) (x2 : Bool) (H2 : Heap) : Prop :=
 iteB x2 (
 letV (i64.wrap ((8 : Int) + (n.tmod (16 : Int)))) (fun n2 =>
 J_ n2 H2)) (
 letV (i64.wrap ((30 : Int) + (n.tmod (4 : Int)))) (fun n3 =>
 J_ n3 H2))
def F_59_k2 (most : Int) (I_ : Sl -> Int -> HP) (M_ : Sl -> Int -> HN) (out : Sl) (i : Int) (H1 : Heap) (k n4 : Int) (H3 : Heap) : Prop :=
 iteB (decide (k < (3 : Int))) (
 letH (H3.push (.cells #[vI k, vI n4] t_101 (0, 0))) (fun H4 =>
 runH Tryz.prog (Builtin.append_ #[t_56, t_56] t_56 #[vS out, .slice (some (aZ H3)) 1 1]) H4 (fun v2 H5 =>
 ∃ out1 : Sl, v2 = vS out1 /\ (
 letV (i64.wrap (i + (1 : Int))) (fun i1 =>
 I_ out1 i1 H5 /\ M_ out1 i1 H5 < M_ out i H1))))) (
 iteB (decide ((i64.wrap ((out.n : Int) + (2 : Int))) <= most)) (
 letH (H3.push (.cells #[vI k, vI n4, vO, vO] t_101 (0, 0))) (fun H6 =>
 runH Tryz.prog (Builtin.append_ #[t_56, t_56] t_56 #[vS out, .slice (some (aZ H3)) 2 2]) H6 (fun v3 H7 =>
 ∃ out2 : Sl, v3 = vS out2 /\ (
 letV (i64.wrap (i + (1 : Int))) (fun i2 =>
 I_ out2 i2 H7 /\ M_ out2 i2 H7 < M_ out i H1))))) (
 letV (i64.wrap (i + (1 : Int))) (fun i3 =>
 I_ out i3 H3 /\ M_ out i3 H3 < M_ out i H1)))
def F_59_r3 (R : VP) (l : Sl) (most : Int) (I_ : Sl -> Int -> HP) (M_ : Sl -> Int -> HN) (out : Sl) (i : Int) (H1 : Heap) : Prop :=
 iteB (decide (i < (l.n : Int))) (
 iteB (decide ((out.n : Int) < most)) (
 (xA i l (fun a =>
 ∃ x, lI H1 (a.add (i.toNat * 2)) x /\ (
 CallsP Tryz.prog n_9 #[vI x, vI (5 : Int)] (fun v =>
 ∃ k : Int, v = vI k /\ (
 (xA i l (fun a1 =>
 ∃ x1, lI H1 ((a1.add (i.toNat * 2)).add 1) x1 /\ (
 CallsP Tryz.prog n_9 #[vI x1, vI (30 : Int)] (fun v1 =>
 ∃ n : Int, v1 = vI n /\ (
 ∃ J_ : Int -> HP, (
 iteB (k == (0 : Int)) (
 J_ (0 : Int) H1) (
 iteB (k == (1 : Int)) (
 letV (i64.wrap ((2 : Int) + (n.tmod (7 : Int)))) (fun n1 =>
 J_ n1 H1)) (
 ∃ J_1 : Bool -> HP, (
 iteB (k == (2 : Int)) (
 J_1 true H1) (
 J_1 ((n.tmod (8 : Int)) != (7 : Int)) H1)) /\ (∀ x2 : Bool, ∀ H2 : Heap, J_1 x2 H2 -> F_59_k1 n J_ x2 H2)))) /\ (∀ n4 : Int, ∀ H3 : Heap, J_ n4 H3 -> F_59_k2 most I_ M_ out i H1 k n4 H3)))))))))))) (
 R (vS out) H1)) (
 R (vS out) H1)
def F_59 (R : VP) (l : Sl) (most : Int) (H : Heap) : Prop :=
 ∃ I_ : Sl -> Int -> HP, ∃ M_ : Sl -> Int -> HN, I_ (Sl.mk none 0 0) (0 : Int) H /\ (∀ out : Sl, ∀ i : Int, ∀ H1 : Heap, I_ out i H1 -> F_59_r3 R l most I_ M_ out i H1)
theorem F_59_ok {R : VP} (l : Sl) (most : Int) {H : Heap} (h : F_59 R l most H) : CallsH Tryz.prog n_59 #[vS l, vI most] H R := wpF_ok Tryz.func59 (show wpF Tryz.prog Tryz.f59 [(5, vN), (6, vI 0), (8, vI 0), (45, .bool false)] [(13, [8], [0, 1, 5, 6, 7]), (12, [45], [0, 1, 5, 6, 7, 8])] [(3, [5, 6], [0, 1])] [9] _ H R = F_59 R l most H by kernel_rfl) h
def F_60_r1 (R : VP) (l : Sl) (fromv unit most n : Int) (I_ : Sl -> Int -> HP) (M_ : Sl -> Int -> HN) (out : Sl) (i : Int) (H1 : Heap) : Prop :=
 iteB (decide (i < (l.n : Int))) (
 iteB (decide (i < most)) (
 (xA i l (fun a =>
 ∃ x, lU H1 (a.add (i.toNat * 2)) x /\ (
 n ≠ 0 /\ (
 (xA i l (fun a1 =>
 ∃ x1, lU H1 ((a1.add (i.toNat * 2)).add 1) x1 /\ (
 (u64.wrap (n - (x.tmod n))) ≠ 0 /\ (
 letH (H1.push (.cells #[vU (u64.wrap (fromv + (u64.wrap ((x.tmod n) * unit)))), vU (u64.wrap ((u64.wrap ((1 : Int) + (x1.tmod (u64.wrap (n - (x.tmod n)))))) * unit))] t_95 (0, 0))) (fun H2 =>
 runH Tryz.prog (Builtin.append_ #[t_23, t_23] t_23 #[vS out, .slice (some (aZ H1)) 1 1]) H2 (fun v H3 =>
 ∃ out1 : Sl, v = vS out1 /\ (
 letV (i64.wrap (i + (1 : Int))) (fun i1 =>
 I_ out1 i1 H3 /\ M_ out1 i1 H3 < M_ out i H1))))))))))))) (
 R (vS out) H1)) (
 R (vS out) H1)
def F_60 (R : VP) (l : Sl) (fromv to unit most : Int) (H : Heap) : Prop :=
 unit ≠ 0 /\ (
 letV (u64.wrap ((u64.wrap (to - fromv)).tdiv unit)) (fun n =>
 ∃ I_ : Sl -> Int -> HP, ∃ M_ : Sl -> Int -> HN, I_ (Sl.mk none 0 0) (0 : Int) H /\ (∀ out : Sl, ∀ i : Int, ∀ H1 : Heap, I_ out i H1 -> F_60_r1 R l fromv unit most n I_ M_ out i H1)))
theorem F_60_ok {R : VP} (l : Sl) (fromv to unit most : Int) {H : Heap} (h : F_60 R l fromv to unit most H) : CallsH Tryz.prog n_60 #[vS l, vU fromv, vU to, vU unit, vI most] H R := wpF_ok Tryz.func60 (show wpF Tryz.prog Tryz.f60 [(11, vN), (13, vI 0)] [] [(4, [11, 13], [0, 1, 3, 4, 12])] [9] _ H R = F_60 R l fromv to unit most H by kernel_rfl) h
def F_61_r1 (R : VP) (H : Heap) (I_ : Int -> HP) (M_ : Int -> HN) (i : Int) (H7 : Heap) : Prop :=
 ∃ x14, lS H7 (aP H 7) x14 /\ (
 iteB (decide (i < (x14.n : Int))) (
 ∃ x15, lS H7 (aP H 7) x15 /\ (
 (xA i x15 (fun a =>
 ∃ x16, lI H7 (a.add (i.toNat * 3)) x16 /\ ∃ x17, lI H7 ((a.add (i.toNat * 3)).add 1) x17 /\ ∃ x18, lI H7 ((a.add (i.toNat * 3)).add 2) x18 /\ (
 letH (H7.push (.cells #[vO, vO, vO] t_116 (0, 0))) (fun H8 =>
 okRow H8 (aZ H7) 3 /\ (
 letH (wrs H8 (aZ H7) [vI x16, vI x17, vI x18]) (fun H9 =>
 ∃ x19, lI H9 (aZ H7) x19 /\ (
 iteB (decide (x19 < (0 : Int))) (
 R (.bool false) H9) (
 ∃ x20, lI H9 (aZ H7) x20 /\ (
 iteB (decide (x20 > (31 : Int))) (
 R (.bool false) H9) (
 ∃ x21, lI H9 (aP H7 1) x21 /\ (
 iteB (decide (x21 < (1 : Int))) (
 R (.bool false) H9) (
 ∃ x22, lI H9 (aP H7 1) x22 /\ (
 iteB (decide (x22 > (4 : Int))) (
 R (.bool false) H9) (
 ∃ x23, lI H9 (aP H7 2) x23 /\ (
 iteB (decide (x23 < (0 : Int))) (
 R (.bool false) H9) (
 ∃ x24, lI H9 (aP H7 2) x24 /\ (
 ∃ x25, lS H9 (aP H 6) x25 /\ (
 iteB (decide (x24 >= (x25.n : Int))) (
 R (.bool false) H9) (
 letV (i64.wrap (i + (1 : Int))) (fun i1 =>
 I_ i1 H9 /\ M_ i1 H9 < M_ i H7)))))))))))))))))))))) (
 R (.bool true) H7))
def F_61 (R : VP) (h_0 : Int) (h_1 h_2 h_3 h_4 h_5 h_6 h_7 : Sl) (H : Heap) : Prop :=
 letH (H.push (.cells #[vI h_0, vS h_1, vS h_2, vS h_3, vS h_4, vS h_5, vS h_6, vS h_7] t_27 (0, 0))) (fun H1 =>
 ∃ x, lI H1 (aZ H) x /\ (
 iteB (decide (x < (1 : Int))) (
 R (.bool false) H1) (
 ∃ x1, lI H1 (aZ H) x1 /\ (
 iteB (decide (x1 > (256 : Int))) (
 R (.bool false) H1) (
 ∃ x2, lS H1 (aP H 6) x2 /\ (
 iteB (decide ((x2.n : Int) > (16 : Int))) (
 R (.bool false) H1) (
 ∃ x3, lS H1 (aP H 7) x3 /\ (
 iteB (decide ((x3.n : Int) > (128 : Int))) (
 R (.bool false) H1) (
 ∃ x4, lS H1 (aP H 1) x4 /\ (
 CallsH Tryz.prog n_95 #[vS x4, vU (0 : Int), vU (65536 : Int)] H1 (fun v H2 =>
 ∃ x5 : Bool, v = .bool x5 /\ (
 iteB (!x5) (
 R (.bool false) H2) (
 ∃ x6, lS H2 (aP H 4) x6 /\ (
 CallsH Tryz.prog n_95 #[vS x6, vU (0 : Int), vU (65536 : Int)] H2 (fun v1 H3 =>
 ∃ x7 : Bool, v1 = .bool x7 /\ (
 iteB (!x7) (
 R (.bool false) H3) (
 ∃ x8, lS H3 (aP H 2) x8 /\ (
 CallsH Tryz.prog n_95 #[vS x8, vU (0 : Int), vU (4294967296 : Int)] H3 (fun v2 H4 =>
 ∃ x9 : Bool, v2 = .bool x9 /\ (
 iteB (!x9) (
 R (.bool false) H4) (
 ∃ x10, lS H4 (aP H 5) x10 /\ (
 CallsH Tryz.prog n_95 #[vS x10, vU (0 : Int), vU (4503599627370496 : Int)] H4 (fun v3 H5 =>
 ∃ x11 : Bool, v3 = .bool x11 /\ (
 iteB (!x11) (
 R (.bool false) H5) (
 ∃ x12, lS H5 (aP H 3) x12 /\ (
 CallsH Tryz.prog n_95 #[vS x12, vU (4294967296 : Int), vU (4503599627370496 : Int)] H5 (fun v4 H6 =>
 ∃ x13 : Bool, v4 = .bool x13 /\ (
 iteB (!x13) (
 R (.bool false) H6) (
 ∃ I_ : Int -> HP, ∃ M_ : Int -> HN, I_ (0 : Int) H6 /\ (∀ i : Int, ∀ H7 : Heap, I_ i H7 -> F_61_r1 R H I_ M_ i H7))))))))))))))))))))))))))))))
theorem F_61_ok {R : VP} (h_0 : Int) (h_1 h_2 h_3 h_4 h_5 h_6 h_7 : Sl) {H : Heap} (h : F_61 R h_0 h_1 h_2 h_3 h_4 h_5 h_6 h_7 H) : CallsH Tryz.prog n_61 #[gE h_0 h_1 h_2 h_3 h_4 h_5 h_6 h_7] H R := wpF_ok Tryz.func61 (show wpF Tryz.prog Tryz.f61 [(3, vI 0)] [] [(6, [3], [1])] [9] _ H R = F_61 R h_0 h_1 h_2 h_3 h_4 h_5 h_6 h_7 H by kernel_rfl) h
def F_62_r1 (R : VP) (H : Heap) (a below : Sl) (H6 : Heap) (x1 : Sl) (x6 : Int) (I_1 : Int -> HP) (M_1 : Int -> HN) (i2 : Int) (H10 : Heap) : Prop :=
 iteB (decide (i2 < (x1.n : Int))) (
 (xA i2 below (fun a2 =>
 ∃ x7, lI H10 (a2.add (i2.toNat * 4)) x7 /\ (
 (xA i2 below (fun a3 =>
 ∃ x8, lI H10 ((a3.add (i2.toNat * 4)).add 1) x8 /\ (
 (xA i2 x1 (fun a4 =>
 ∃ x9, lU H10 (a4.add (i2.toNat * 1)) x9 /\ (
 CallsH Tryz.prog n_63 #[vS a, vI x7, vI x8] H10 (fun v3 H11 =>
 ∃ x10 : Int, v3 = vI x10 /\ (
 Keeps H10 H11 [((a4.add (i2.toNat * 1)), 1)] /\ (
 (xA x10 a (fun a5 =>
 okRow H11 ((a5.add (x10.toNat * 5)).add 4) 1 /\ (
 letH (wrs H11 ((a5.add (x10.toNat * 5)).add 4) [vU x9]) (fun H12 =>
 letV (i64.wrap (i2 + (1 : Int))) (fun i3 =>
 I_1 i3 H12 /\ M_1 i3 H12 < M_1 i2 H10)))))))))))))))))) (
 iteB (x6 == (0 : Int)) (
 okRow H10 (aZ H6) 4 /\ (
 letH (wrs H10 (aZ H6) [vO, vO, vU (0 : Int), vU (0 : Int)]) (fun H13 =>
 ∃ x11, lI H13 (aZ H6) x11 /\ ∃ x12, lI H13 (aP H6 1) x12 /\ ∃ x13, lU H13 (aP H6 2) x13 /\ ∃ x14, lU H13 (aP H6 3) x14 /\ (
 okRow H13 (aZ H) 4 /\ (
 letH (wrs H13 (aZ H) [vI x11, vI x12, vU x13, vU x14]) (fun H14 =>
 ∃ r, lI H14 (aZ H) r /\ ∃ r1, lI H14 (aP H 1) r1 /\ ∃ r2, lU H14 (aP H 2) r2 /\ ∃ r3, lU H14 (aP H 3) r3 /\ (
 R (.tuple #[.agg #[vI r, vI r1, vU r2, vU r3], vI x6]) H14))))))) (
 ∃ x15, lI H10 (aZ H6) x15 /\ ∃ x16, lI H10 (aP H6 1) x16 /\ ∃ x17, lU H10 (aP H6 2) x17 /\ ∃ x18, lU H10 (aP H6 3) x18 /\ (
 okRow H10 (aZ H) 4 /\ (
 letH (wrs H10 (aZ H) [vI x15, vI x16, vU x17, vU x18]) (fun H15 =>
 ∃ r4, lI H15 (aZ H) r4 /\ ∃ r5, lI H15 (aP H 1) r5 /\ ∃ r6, lU H15 (aP H 2) r6 /\ ∃ r7, lU H15 (aP H 3) r7 /\ (
 R (.tuple #[.agg #[vI r4, vI r5, vU r6, vU r7], vI x6]) H15))))))
def F_62_r2 (R : VP) (H : Heap) (a : Sl) (classv : Int) (free below : Sl) (I_ : Sl -> Int -> HP) (M_ : Sl -> Int -> HN) (sizes : Sl) (i : Int) (H3 : Heap) : Prop :=
 iteB (decide (i < (below.n : Int))) (
 (xA i below (fun a1 =>
 ∃ x, lI H3 ((a1.add (i.toNat * 4)).add 3) x /\ (
 letH (H3.push (.cells #[vI x] t_3 (0, 0))) (fun H4 =>
 runH Tryz.prog (Builtin.append_ #[t_52, t_52] t_52 #[vS sizes, .slice (some (aZ H3)) 1 1]) H4 (fun v1 H5 =>
 ∃ sizes1 : Sl, v1 = vS sizes1 /\ (
 letV (i64.wrap (i + (1 : Int))) (fun i1 =>
 I_ sizes1 i1 H5 /\ M_ sizes1 i1 H5 < M_ sizes i H3)))))))) (
 CallsH Tryz.prog n_96 #[vS free, vS sizes] H3 (fun v2 H6 =>
 ∃ x1 : Sl, ∃ x2 x3 : Int, ∃ x4 x5 x6 : Int, v2 = .tuple #[vS x1, .agg #[vI x2, vI x3, vU x4, vU x5], vI x6] /\ (
 letH (H6.push (.cells #[vO, vO, vU (0 : Int), vU (0 : Int)] t_39 (0, 0))) (fun H7 =>
 okRow H7 (aZ H6) 4 /\ (
 letH (wrs H7 (aZ H6) [vI x2, vI x3, vU x4, vU x5]) (fun H8 =>
 okRow H8 (aZ H6) 1 /\ (
 letH (wrs H8 (aZ H6) [vI classv]) (fun H9 =>
 ∃ I_1 : Int -> HP, ∃ M_1 : Int -> HN, I_1 (0 : Int) H9 /\ (∀ i2 : Int, ∀ H10 : Heap, I_1 i2 H10 -> F_62_r1 R H a below H6 x1 x6 I_1 M_1 i2 H10)))))))))
def F_62 (R : VP) (l a needs : Sl) (parent classv : Int) (free : Sl) (H : Heap) : Prop :=
 letH (H.push (.cells #[vO, vO, vU (0 : Int), vU (0 : Int)] t_39 (0, 0))) (fun H1 =>
 CallsH Tryz.prog n_17 #[vS l, vS needs, vI parent, vI classv] H1 (fun v H2 =>
 ∃ below : Sl, v = vS below /\ (
 ∃ I_ : Sl -> Int -> HP, ∃ M_ : Sl -> Int -> HN, I_ (Sl.mk none 0 0) (0 : Int) H2 /\ (∀ sizes : Sl, ∀ i : Int, ∀ H3 : Heap, I_ sizes i H3 -> F_62_r2 R H a classv free below I_ M_ sizes i H3))))
theorem F_62_ok {R : VP} (l a needs : Sl) (parent classv : Int) (free : Sl) {H : Heap} (h : F_62 R l a needs parent classv free H) : CallsH Tryz.prog n_62 #[vS l, vS a, vS needs, vI parent, vI classv, vS free] H R := wpF_ok Tryz.func62 (show wpF Tryz.prog Tryz.f62 [(15, vN), (16, vI 0), (20, vI 0)] [] [(4, [15, 16], [1, 4, 5, 12, 14]), (10, [20], [1, 12, 14, 17, 18, 19])] [9] _ H R = F_62 R l a needs parent classv free H by kernel_rfl) h
def F_63_r1 (R : VP) (a : Sl) (f index : Int) (I_ : Int -> HP) (M_ : Int -> HN) (i : Int) (H1 : Heap) : Prop :=
 iteB (decide (i < (a.n : Int))) (
 (xA i a (fun a1 =>
 ∃ x, lI H1 (a1.add (i.toNat * 5)) x /\ (
 iteB (x == f) (
 (xA i a (fun a2 =>
 ∃ x1, lI H1 ((a2.add (i.toNat * 5)).add 1) x1 /\ (
 iteB (x1 == index) (
 R (vI i) H1) (
 letV (i64.wrap (i + (1 : Int))) (fun i1 =>
 I_ i1 H1 /\ M_ i1 H1 < M_ i H1)))))) (
 letV (i64.wrap (i + (1 : Int))) (fun i2 =>
 I_ i2 H1 /\ M_ i2 H1 < M_ i H1)))))) (
 R (vI (-1 : Int)) H1)
def F_63 (R : VP) (a : Sl) (f index : Int) (H : Heap) : Prop :=
 ∃ I_ : Int -> HP, ∃ M_ : Int -> HN, I_ (0 : Int) H /\ (∀ i : Int, ∀ H1 : Heap, I_ i H1 -> F_63_r1 R a f index I_ M_ i H1)
theorem F_63_ok {R : VP} (a : Sl) (f index : Int) {H : Heap} (h : F_63 R a f index H) : CallsH Tryz.prog n_63 #[vS a, vI f, vI index] H R := wpF_ok Tryz.func63 (show wpF Tryz.prog Tryz.f63 [(7, vI 0)] [] [(2, [7], [0, 1, 2])] [9] _ H R = F_63 R a f index H by kernel_rfl) h
def F_64 (R : VP) (l : Sl) (i : Int) (H : Heap) : Prop :=
 iteB (decide (i >= (0 : Int))) (
 iteB (decide (i < (l.n : Int))) (
 (xA i l (fun a =>
 ∃ x, lB H ((a.add (i.toNat * 11)).add 6) x /\ (
 R (.bool x) H)))) (
 R (.bool false) H)) (
 R (.bool false) H)
theorem F_64_ok {R : VP} (l : Sl) (i : Int) {H : Heap} (h : F_64 R l i H) : CallsH Tryz.prog n_64 #[vS l, vI i] H R := wpF_ok Tryz.func64 (show wpF Tryz.prog Tryz.f64 [] [] [] [9] _ H R = F_64 R l i H by kernel_rfl) h
def F_65_k1 (I_1 : Sl -> Int -> HP) (M_1 : Sl -> Int -> HN) (out1 : Sl) (i : Int) (H2 : Heap) (x2 : Bool) (H3 : Heap) : Prop :=
 iteB x2 (
 letH (H3.push (.cells #[vI i] t_3 (0, 0))) (fun H4 =>
 runH Tryz.prog (Builtin.append_ #[t_52, t_52] t_52 #[vS out1, .slice (some (aZ H3)) 1 1]) H4 (fun v H5 =>
 ∃ out2 : Sl, v = vS out2 /\ (
 letV (i64.wrap (i + (1 : Int))) (fun i1 =>
 I_1 out2 i1 H5 /\ M_1 out2 i1 H5 < M_1 out1 i H2))))) (
 letV (i64.wrap (i + (1 : Int))) (fun i2 =>
 I_1 out1 i2 H3 /\ M_1 out1 i2 H3 < M_1 out1 i H2))
def F_65_r2 (l : Sl) (parent : Int) (I_ : Sl -> Int -> HP) (M_ : Sl -> Int -> HN) (out : Sl) (slot : Int) (H1 : Heap) (I_1 : Sl -> Int -> HP) (M_1 : Sl -> Int -> HN) (out1 : Sl) (i : Int) (H2 : Heap) : Prop :=
 iteB (decide (i < (l.n : Int))) (
 ∃ J_ : Bool -> HP, (
 (xA i l (fun a =>
 ∃ x, lI H2 (a.add (i.toNat * 11)) x /\ (
 iteB (x == parent) (
 (xA i l (fun a1 =>
 ∃ x1, lI H2 ((a1.add (i.toNat * 11)).add 1) x1 /\ (
 J_ (x1 == slot) H2)))) (
 J_ false H2))))) /\ (∀ x2 : Bool, ∀ H3 : Heap, J_ x2 H3 -> F_65_k1 I_1 M_1 out1 i H2 x2 H3)) (
 letV (i64.wrap (slot + (1 : Int))) (fun slot1 =>
 I_ out1 slot1 H2 /\ M_ out1 slot1 H2 < M_ out slot H1))
def F_65_r3 (R : VP) (l : Sl) (parent : Int) (I_ : Sl -> Int -> HP) (M_ : Sl -> Int -> HN) (out : Sl) (slot : Int) (H1 : Heap) : Prop :=
 iteB (decide (slot < (32 : Int))) (
 ∃ I_1 : Sl -> Int -> HP, ∃ M_1 : Sl -> Int -> HN, I_1 out (0 : Int) H1 /\ (∀ out1 : Sl, ∀ i : Int, ∀ H2 : Heap, I_1 out1 i H2 -> F_65_r2 l parent I_ M_ out slot H1 I_1 M_1 out1 i H2)) (
 R (vS out) H1)
def F_65 (R : VP) (l : Sl) (parent : Int) (H : Heap) : Prop :=
 ∃ I_ : Sl -> Int -> HP, ∃ M_ : Sl -> Int -> HN, I_ (Sl.mk none 0 0) (0 : Int) H /\ (∀ out : Sl, ∀ slot : Int, ∀ H1 : Heap, I_ out slot H1 -> F_65_r3 R l parent I_ M_ out slot H1)
theorem F_65_ok {R : VP} (l : Sl) (parent : Int) {H : Heap} (h : F_65 R l parent H) : CallsH Tryz.prog n_65 #[vS l, vI parent] H R := wpF_ok Tryz.func65 (show wpF Tryz.prog Tryz.f65 [(5, vN), (6, vI 0), (7, vI 0), (33, .bool false)] [(9, [33], [0, 1, 5, 6, 7])] [(3, [5, 6], [0, 1]), (6, [5, 7], [0, 1, 6])] [9] _ H R = F_65 R l parent H by kernel_rfl) h
def F_66 (R : VP) (l : Sl) (port : Int) (H : Heap) : Prop :=
 iteB (decide (port >= (0 : Int))) (
 iteB (decide (port < (l.n : Int))) (
 (xA port l (fun a =>
 ∃ x, lB H ((a.add (port.toNat * 11)).add 4) x /\ (
 iteB x (
 (xA port l (fun a1 =>
 ∃ x1, lB H ((a1.add (port.toNat * 11)).add 6) x1 /\ (
 R (.bool x1) H)))) (
 R (.bool false) H))))) (
 R (.bool false) H)) (
 R (.bool false) H)
theorem F_66_ok {R : VP} (l : Sl) (port : Int) {H : Heap} (h : F_66 R l port H) : CallsH Tryz.prog n_66 #[vS l, vI port] H R := wpF_ok Tryz.func66 (show wpF Tryz.prog Tryz.f66 [] [] [] [9] _ H R = F_66 R l port H by kernel_rfl) h
def F_67_r1 (R : VP) (l : Sl) (high : Bool) (function : Int) (x : Sl) (I_ : Sl -> Int -> HP) (M_ : Sl -> Int -> HN) (needs : Sl) (x1 : Int) (H1 : Heap) : Prop :=
 iteB (decide (x1 < (x.n : Int))) (
 (xA x1 x (fun a1 =>
 ∃ x2, lI H1 (a1.add (x1.toNat * 2)) x2 /\ ∃ x3, lI H1 ((a1.add (x1.toNat * 2)).add 1) x3 /\ (
 letH (H1.push (.cells #[vO, vO] t_101 (0, 0))) (fun H2 =>
 okRow H2 (aZ H1) 2 /\ (
 letH (wrs H2 (aZ H1) [vI x2, vI x3]) (fun H3 =>
 ∃ x4, lI H3 (aZ H1) x4 /\ (
 iteB (x4 == (0 : Int)) (
 I_ needs (i64.wrap (x1 + (1 : Int))) H3 /\ M_ needs (i64.wrap (x1 + (1 : Int))) H3 < M_ needs x1 H1) (
 ∃ x5, lI H3 (aZ H1) x5 /\ (
 CallsH Tryz.prog n_97 #[vS l, .bool high, vI function, vI x5] H3 (fun v H4 =>
 ∃ classv : Int, v = vI classv /\ (
 ∃ x6, lI H4 (aP H1 1) x6 /\ (
 letH (H4.push (.cells #[vI function, vI x1, vI classv, vI x6] t_29 (0, 0))) (fun H5 =>
 runH Tryz.prog (Builtin.append_ #[t_53, t_53] t_53 #[vS needs, .slice (some (aZ H4)) 1 1]) H5 (fun v1 H6 =>
 ∃ needs1 : Sl, v1 = vS needs1 /\ (
 I_ needs1 (i64.wrap (x1 + (1 : Int))) H6 /\ M_ needs1 (i64.wrap (x1 + (1 : Int))) H6 < M_ needs x1 H1)))))))))))))))) (
 R (vS needs) H1)
def F_67 (R : VP) (l : Sl) (high : Bool) (function : Int) (H : Heap) : Prop :=
 (xA function l (fun a =>
 ∃ x, lS H ((a.add (function.toNat * 11)).add 10) x /\ (
 ∃ I_ : Sl -> Int -> HP, ∃ M_ : Sl -> Int -> HN, I_ (Sl.mk none 0 0) (0 : Int) H /\ (∀ needs : Sl, ∀ x1 : Int, ∀ H1 : Heap, I_ needs x1 H1 -> F_67_r1 R l high function x I_ M_ needs x1 H1))))
theorem F_67_ok {R : VP} (l : Sl) (high : Bool) (function : Int) {H : Heap} (h : F_67 R l high function H) : CallsH Tryz.prog n_67 #[vS l, .bool high, vI function] H R := wpF_ok Tryz.func67 (show wpF Tryz.prog Tryz.f67 [(7, vN), (17, vI 0)] [] [(3, [7, 17], [0, 1, 2, 15, 16])] [9] _ H R = F_67 R l high function H by kernel_rfl) h
def F_68_k1 (function : Int) (H1 : Heap) (x12 : Sl) (I_ : Sl -> Int -> HP) (M_ : Sl -> Int -> HN) (needs : Sl) (x15 : Int) (H4 H6 : Heap) : Prop :=
 ∃ x18, lB H6 (aP H1 6) x18 /\ (
 CallsH Tryz.prog n_99 #[vS x12, vI x15, .bool x18] H6 (fun v1 H7 =>
 ∃ x19 : Int, ∃ x20 : Bool, v1 = .tuple #[vI x19, .bool x20] /\ (
 iteB x20 (
 letH (H7.push (.cells #[vI function, vI (i64.wrap ((-1 : Int) - x15)), vI x15, vI x19] t_29 (0, 0))) (fun H8 =>
 runH Tryz.prog (Builtin.append_ #[t_53, t_53] t_53 #[vS needs, .slice (some (aZ H7)) 1 1]) H8 (fun v2 H9 =>
 ∃ needs1 : Sl, v2 = vS needs1 /\ (
 I_ needs1 (i64.wrap (x15 + (1 : Int))) H9 /\ M_ needs1 (i64.wrap (x15 + (1 : Int))) H9 < M_ needs x15 H4)))) (
 I_ needs (i64.wrap (x15 + (1 : Int))) H7 /\ M_ needs (i64.wrap (x15 + (1 : Int))) H7 < M_ needs x15 H4))))
def F_68_k2 (function : Int) (H1 : Heap) (x13 : Sl) (I_ : Sl -> Int -> HP) (M_ : Sl -> Int -> HN) (needs : Sl) (x15 : Int) (H4 H11 : Heap) : Prop :=
 ∃ x23, lB H11 (aP H1 6) x23 /\ (
 CallsH Tryz.prog n_99 #[vS x13, vI x15, .bool x23] H11 (fun v4 H12 =>
 ∃ x24 : Int, ∃ x25 : Bool, v4 = .tuple #[vI x24, .bool x25] /\ (
 iteB x25 (
 letH (H12.push (.cells #[vI function, vI (i64.wrap ((-1 : Int) - x15)), vI x15, vI x24] t_29 (0, 0))) (fun H13 =>
 runH Tryz.prog (Builtin.append_ #[t_53, t_53] t_53 #[vS needs, .slice (some (aZ H12)) 1 1]) H13 (fun v5 H14 =>
 ∃ needs2 : Sl, v5 = vS needs2 /\ (
 I_ needs2 (i64.wrap (x15 + (1 : Int))) H14 /\ M_ needs2 (i64.wrap (x15 + (1 : Int))) H14 < M_ needs x15 H4)))) (
 I_ needs (i64.wrap (x15 + (1 : Int))) H12 /\ M_ needs (i64.wrap (x15 + (1 : Int))) H12 < M_ needs x15 H4))))
def F_68_k3 (function : Int) (H1 : Heap) (x14 : Sl) (I_ : Sl -> Int -> HP) (M_ : Sl -> Int -> HN) (needs : Sl) (x15 : Int) (H4 H16 : Heap) : Prop :=
 ∃ x28, lB H16 (aP H1 6) x28 /\ (
 CallsH Tryz.prog n_99 #[vS x14, vI x15, .bool x28] H16 (fun v7 H17 =>
 ∃ x29 : Int, ∃ x30 : Bool, v7 = .tuple #[vI x29, .bool x30] /\ (
 iteB x30 (
 letH (H17.push (.cells #[vI function, vI (i64.wrap ((-1 : Int) - x15)), vI x15, vI x29] t_29 (0, 0))) (fun H18 =>
 runH Tryz.prog (Builtin.append_ #[t_53, t_53] t_53 #[vS needs, .slice (some (aZ H17)) 1 1]) H18 (fun v8 H19 =>
 ∃ needs3 : Sl, v8 = vS needs3 /\ (
 I_ needs3 (i64.wrap (x15 + (1 : Int))) H19 /\ M_ needs3 (i64.wrap (x15 + (1 : Int))) H19 < M_ needs x15 H4)))) (
 I_ needs (i64.wrap (x15 + (1 : Int))) H17 /\ M_ needs (i64.wrap (x15 + (1 : Int))) H17 < M_ needs x15 H4))))
def F_68_r4 (R : VP) (l : Sl) (high : Bool) (function : Int) (H1 : Heap) (x12 x13 x14 : Sl) (I_ : Sl -> Int -> HP) (M_ : Sl -> Int -> HN) (needs : Sl) (x15 : Int) (H4 : Heap) : Prop :=
 iteB (decide (x15 < (3 : Int))) (
 0 <= x15 /\ x15 < ((3 : Nat) : Int) /\ (iteB (x15 == (0 : Int)) (
 ∃ J_ : HP, (
 iteB (x15 == (2 : Int)) (
 iteB high (
 ∃ x16, lB H4 (aP H1 5) x16 /\ (
 iteB x16 (
 CallsH Tryz.prog n_98 #[vS l, vI function] H4 (fun v H5 =>
 ∃ x17 : Bool, v = .bool x17 /\ (
 iteB (!x17) (
 I_ needs (i64.wrap (x15 + (1 : Int))) H5 /\ M_ needs (i64.wrap (x15 + (1 : Int))) H5 < M_ needs x15 H4) (
 J_ H5)))) (
 I_ needs (i64.wrap (x15 + (1 : Int))) H4 /\ M_ needs (i64.wrap (x15 + (1 : Int))) H4 < M_ needs x15 H4))) (
 I_ needs (i64.wrap (x15 + (1 : Int))) H4 /\ M_ needs (i64.wrap (x15 + (1 : Int))) H4 < M_ needs x15 H4)) (
 J_ H4)) /\ (∀ H6 : Heap, J_ H6 -> F_68_k1 function H1 x12 I_ M_ needs x15 H4 H6)) (
 iteB (x15 == (1 : Int)) (
 ∃ J_1 : HP, (
 iteB (x15 == (2 : Int)) (
 iteB high (
 ∃ x21, lB H4 (aP H1 5) x21 /\ (
 iteB x21 (
 CallsH Tryz.prog n_98 #[vS l, vI function] H4 (fun v3 H10 =>
 ∃ x22 : Bool, v3 = .bool x22 /\ (
 iteB (!x22) (
 I_ needs (i64.wrap (x15 + (1 : Int))) H10 /\ M_ needs (i64.wrap (x15 + (1 : Int))) H10 < M_ needs x15 H4) (
 J_1 H10)))) (
 I_ needs (i64.wrap (x15 + (1 : Int))) H4 /\ M_ needs (i64.wrap (x15 + (1 : Int))) H4 < M_ needs x15 H4))) (
 I_ needs (i64.wrap (x15 + (1 : Int))) H4 /\ M_ needs (i64.wrap (x15 + (1 : Int))) H4 < M_ needs x15 H4)) (
 J_1 H4)) /\ (∀ H11 : Heap, J_1 H11 -> F_68_k2 function H1 x13 I_ M_ needs x15 H4 H11)) (
 iteB (x15 == (2 : Int)) (
 ∃ J_2 : HP, (
 iteB (x15 == (2 : Int)) (
 iteB high (
 ∃ x26, lB H4 (aP H1 5) x26 /\ (
 iteB x26 (
 CallsH Tryz.prog n_98 #[vS l, vI function] H4 (fun v6 H15 =>
 ∃ x27 : Bool, v6 = .bool x27 /\ (
 iteB (!x27) (
 I_ needs (i64.wrap (x15 + (1 : Int))) H15 /\ M_ needs (i64.wrap (x15 + (1 : Int))) H15 < M_ needs x15 H4) (
 J_2 H15)))) (
 I_ needs (i64.wrap (x15 + (1 : Int))) H4 /\ M_ needs (i64.wrap (x15 + (1 : Int))) H4 < M_ needs x15 H4))) (
 I_ needs (i64.wrap (x15 + (1 : Int))) H4 /\ M_ needs (i64.wrap (x15 + (1 : Int))) H4 < M_ needs x15 H4)) (
 J_2 H4)) /\ (∀ H16 : Heap, J_2 H16 -> F_68_k3 function H1 x14 I_ M_ needs x15 H4 H16)) (
 False))))) (
 R (vS needs) H4)
def F_68 (R : VP) (l : Sl) (high : Bool) (function : Int) (below_0 below_1 below_2 : Sl) (H : Heap) : Prop :=
 letH (H.push (.cells #[vS below_0, vS below_1, vS below_2] t_126 (0, 0))) (fun H1 =>
 (xA function l (fun a =>
 ∃ x, lI H1 (a.add (function.toNat * 11)) x /\ ∃ x1, lI H1 ((a.add (function.toNat * 11)).add 1) x1 /\ ∃ x2, lI H1 ((a.add (function.toNat * 11)).add 2) x2 /\ ∃ x3, lI H1 ((a.add (function.toNat * 11)).add 3) x3 /\ ∃ x4, lB H1 ((a.add (function.toNat * 11)).add 4) x4 /\ ∃ x5, lB H1 ((a.add (function.toNat * 11)).add 5) x5 /\ ∃ x6, lB H1 ((a.add (function.toNat * 11)).add 6) x6 /\ ∃ x7, lI H1 ((a.add (function.toNat * 11)).add 7) x7 /\ ∃ x8, lI H1 ((a.add (function.toNat * 11)).add 8) x8 /\ ∃ x9, lI H1 ((a.add (function.toNat * 11)).add 9) x9 /\ ∃ x10, lS H1 ((a.add (function.toNat * 11)).add 10) x10 /\ (
 letH (H1.push (.cells #[vO, vO, vO, vO, .bool false, .bool false, .bool false, vO, vO, vO, vN] t_58 (0, 0))) (fun H2 =>
 okRow H2 (aZ H1) 11 /\ (
 letH (wrs H2 (aZ H1) [vI x, vI x1, vI x2, vI x3, .bool x4, .bool x5, .bool x6, vI x7, vI x8, vI x9, vS x10]) (fun H3 =>
 ∃ x11, lB H3 (aP H1 4) x11 /\ (
 iteB (!x11) (
 R (vN) H3) (
 ∃ x12, lS H3 (aZ H) x12 /\ ∃ x13, lS H3 (aP H 1) x13 /\ ∃ x14, lS H3 (aP H 2) x14 /\ (
 ∃ I_ : Sl -> Int -> HP, ∃ M_ : Sl -> Int -> HN, I_ (Sl.mk none 0 0) (0 : Int) H3 /\ (∀ needs : Sl, ∀ x15 : Int, ∀ H4 : Heap, I_ needs x15 H4 -> F_68_r4 R l high function H1 x12 x13 x14 I_ M_ needs x15 H4)))))))))))
theorem F_68_ok {R : VP} (l : Sl) (high : Bool) (function : Int) (below_0 below_1 below_2 : Sl) {H : Heap} (h : F_68 R l high function below_0 below_1 below_2 H) : CallsH Tryz.prog n_68 #[vS l, .bool high, vI function, .agg #[vS below_0, vS below_1, vS below_2]] H R := wpF_ok Tryz.func68 (show wpF Tryz.prog Tryz.f68 [(10, vN), (23, vI 0)] [(9, [], [0, 1, 2, 9, 10, 11, 12, 22, 23])] [(6, [10, 23], [0, 1, 2, 9, 22])] [9] _ H R = F_68 R l high function below_0 below_1 below_2 H by kernel_rfl) h
def F_69 (R : VP) (classv : Int) (H : Heap) : Prop :=
 iteB (classv == (0 : Int)) (
 R (vI (15 : Int)) H) (
 iteB (classv == (1 : Int)) (
 R (vI (31 : Int)) H) (
 R (vI (44 : Int)) H))
theorem F_69_ok {R : VP} (classv : Int) {H : Heap} (h : F_69 R classv H) : CallsH Tryz.prog n_69 #[vI classv] H R := wpF_ok Tryz.func69 (show wpF Tryz.prog Tryz.f69 [] [] [] [9] _ H R = F_69 R classv H by kernel_rfl) h
def F_70 (R : VP) (x : Addr) (function index : Int) (H : Heap) : Prop :=
 letH (H.push (.cells #[vI function] t_3 (0, 0))) (fun H1 =>
 letH (H1.push (.cells #[vI index] t_3 (0, 0))) (fun H2 =>
 ∃ x1, lS H2 (x.add 2) x1 /\ (
 CallsH Tryz.prog n_100 #[vS x1, .func (.func 101) #[] #[.pointer (some (aZ H)), .pointer (some (aZ H1))]] H2 (fun v H3 =>
 ∃ x2 : Int, v = vI x2 /\ (
 R (vI x2) H3)))))
theorem F_70_ok {R : VP} (x : Addr) (function index : Int) {H : Heap} (h : F_70 R x function index H) : CallsH Tryz.prog n_70 #[.pointer (some x), vI function, vI index] H R := wpF_ok Tryz.func70 (show wpF Tryz.prog Tryz.f70 [] [] [] [9] _ H R = F_70 R x function index H by kernel_rfl) h
def F_71_r1 (R : VP) (x : Addr) (waiting x20 : Sl) (I_1 : Int -> HP) (M_1 : Int -> HN) (x26 : Int) (H18 : Heap) : Prop :=
 iteB (decide (x26 < (waiting.n : Int))) (
 (xA x26 waiting (fun a3 =>
 ∃ i, lI H18 (a3.add (x26.toNat * 1)) i /\ (
 ∃ x27, lS H18 (x.add 3) x27 /\ (
 (xA x26 x20 (fun a4 =>
 ∃ x28, lU H18 (a4.add (x26.toNat * 1)) x28 /\ (
 (xA i x27 (fun a5 =>
 okRow H18 (a5.add (i.toNat * 1)) 1 /\ (
 letH (wrs H18 (a5.add (i.toNat * 1)) [vU x28]) (fun H19 =>
 ∃ x29, lS H19 (x.add 4) x29 /\ (
 (xA i x29 (fun a6 =>
 okRow H19 (a6.add (i.toNat * 1)) 1 /\ (
 letH (wrs H19 (a6.add (i.toNat * 1)) [.bool true]) (fun H20 =>
 I_1 (i64.wrap (x26 + (1 : Int))) H20 /\ M_1 (i64.wrap (x26 + (1 : Int))) H20 < M_1 x26 H18))))))))))))))))) (
 R (.bool true) H18)
def F_71_r2 (R : VP) (x : Addr) (bridge classv : Int) (x1 : Sl) (I_ : Sl -> Sl -> Sl -> Int -> HP) (M_ : Sl -> Sl -> Sl -> Int -> HN) (waiting sizes taken : Sl) (x2 : Int) (H1 : Heap) : Prop :=
 iteB (decide (x2 < (x1.n : Int))) (
 (xA x2 x1 (fun a =>
 ∃ x3, lI H1 (a.add (x2.toNat * 4)) x3 /\ ∃ x4, lI H1 ((a.add (x2.toNat * 4)).add 1) x4 /\ ∃ x5, lI H1 ((a.add (x2.toNat * 4)).add 2) x5 /\ ∃ x6, lI H1 ((a.add (x2.toNat * 4)).add 3) x6 /\ (
 letH (H1.push (.cells #[vO, vO, vO, vO] t_29 (0, 0))) (fun H2 =>
 okRow H2 (aZ H1) 4 /\ (
 letH (wrs H2 (aZ H1) [vI x3, vI x4, vI x5, vI x6]) (fun H3 =>
 ∃ x7, lI H3 (aP H1 2) x7 /\ (
 iteB (x7 != classv) (
 I_ waiting sizes taken (i64.wrap (x2 + (1 : Int))) H3 /\ M_ waiting sizes taken (i64.wrap (x2 + (1 : Int))) H3 < M_ waiting sizes taken x2 H1) (
 ∃ x8, lS H3 x x8 /\ (
 ∃ x9, lI H3 (aZ H1) x9 /\ (
 (xA x9 x8 (fun a1 =>
 ∃ x10, lI H3 (a1.add (x9.toNat * 11)) x10 /\ (
 iteB (x10 != bridge) (
 I_ waiting sizes taken (i64.wrap (x2 + (1 : Int))) H3 /\ M_ waiting sizes taken (i64.wrap (x2 + (1 : Int))) H3 < M_ waiting sizes taken x2 H1) (
 ∃ x11, lI H3 (aZ H1) x11 /\ (
 ∃ x12, lI H3 (x.add 1) x12 /\ (
 iteB (decide (x11 < x12)) (
 CallsH Tryz.prog n_102 #[.pointer (some x), vI x2] H3 (fun v H4 =>
 ∃ x13 x14 : Int, v = .agg #[vU x13, vU x14] /\ (
 letH (H4.push (.cells #[vU x13, vU x14] t_95 (0, 0))) (fun H5 =>
 runH Tryz.prog (Builtin.append_ #[t_23, t_23] t_23 #[vS taken, .slice (some (aZ H4)) 1 1]) H5 (fun v1 H6 =>
 ∃ taken1 : Sl, v1 = vS taken1 /\ (
 I_ waiting sizes taken1 (i64.wrap (x2 + (1 : Int))) H6 /\ M_ waiting sizes taken1 (i64.wrap (x2 + (1 : Int))) H6 < M_ waiting sizes taken x2 H1)))))) (
 letH (H3.push (.cells #[vI x2] t_3 (0, 0))) (fun H7 =>
 runH Tryz.prog (Builtin.append_ #[t_52, t_52] t_52 #[vS waiting, .slice (some (aZ H3)) 1 1]) H7 (fun v2 H8 =>
 ∃ waiting1 : Sl, v2 = vS waiting1 /\ (
 ∃ x15, lI H8 (aP H1 3) x15 /\ (
 letH (H8.push (.cells #[vI x15] t_3 (0, 0))) (fun H9 =>
 runH Tryz.prog (Builtin.append_ #[t_52, t_52] t_52 #[vS sizes, .slice (some (aZ H8)) 1 1]) H9 (fun v3 H10 =>
 ∃ sizes1 : Sl, v3 = vS sizes1 /\ (
 I_ waiting1 sizes1 taken (i64.wrap (x2 + (1 : Int))) H10 /\ M_ waiting1 sizes1 taken (i64.wrap (x2 + (1 : Int))) H10 < M_ waiting sizes taken x2 H1))))))))))))))))))))))))) (
 iteB ((waiting.n : Int) == (0 : Int)) (
 R (.bool true) H1) (
 CallsH Tryz.prog n_70 #[.pointer (some x), vI bridge, vI (i64.wrap ((-1 : Int) - classv))] H1 (fun v4 H11 =>
 ∃ window : Int, v4 = vI window /\ (
 iteB (decide (window < (0 : Int))) (
 R (.bool false) H11) (
 ∃ x16, lS H11 (x.add 4) x16 /\ (
 (xA window x16 (fun a2 =>
 ∃ x17, lB H11 (a2.add (window.toNat * 1)) x17 /\ (
 iteB (!x17) (
 R (.bool false) H11) (
 CallsH Tryz.prog n_102 #[.pointer (some x), vI window] H11 (fun v5 H12 =>
 ∃ x18 x19 : Int, v5 = .agg #[vU x18, vU x19] /\ (
 letH (H12.push (.cells #[vU x18, vU x19] t_95 (0, 0))) (fun H13 =>
 CallsH Tryz.prog n_85 #[.slice (some (aZ H12)) 1 1, vS taken] H13 (fun v6 H14 =>
 ∃ free : Sl, v6 = vS free /\ (
 CallsH Tryz.prog n_103 #[vS free, vS sizes] H14 (fun v7 H15 =>
 ∃ x20 : Sl, ∃ x21 x22 : Int, ∃ x23 x24 x25 : Int, v7 = .tuple #[vS x20, .agg #[vI x21, vI x22, vU x23, vU x24], vI x25] /\ (
 letH (H15.push (.cells #[vO, vO, vU (0 : Int), vU (0 : Int)] t_39 (0, 0))) (fun H16 =>
 okRow H16 (aZ H15) 4 /\ (
 letH (wrs H16 (aZ H15) [vI x21, vI x22, vU x23, vU x24]) (fun H17 =>
 iteB (x25 != (0 : Int)) (
 R (.bool false) H17) (
 ∃ I_1 : Int -> HP, ∃ M_1 : Int -> HN, I_1 (0 : Int) H17 /\ (∀ x26 : Int, ∀ H18 : Heap, I_1 x26 H18 -> F_71_r1 R x waiting x20 I_1 M_1 x26 H18))))))))))))))))))))))
def F_71 (R : VP) (x : Addr) (bridge classv : Int) (H : Heap) : Prop :=
 ∃ x1, lS H (x.add 2) x1 /\ (
 ∃ I_ : Sl -> Sl -> Sl -> Int -> HP, ∃ M_ : Sl -> Sl -> Sl -> Int -> HN, I_ (Sl.mk none 0 0) (Sl.mk none 0 0) (Sl.mk none 0 0) (0 : Int) H /\ (∀ waiting sizes taken : Sl, ∀ x2 : Int, ∀ H1 : Heap, I_ waiting sizes taken x2 H1 -> F_71_r2 R x bridge classv x1 I_ M_ waiting sizes taken x2 H1))
theorem F_71_ok {R : VP} (x : Addr) (bridge classv : Int) {H : Heap} (h : F_71 R x bridge classv H) : CallsH Tryz.prog n_71 #[.pointer (some x), vI bridge, vI classv] H R := wpF_ok Tryz.func71 (show wpF Tryz.prog Tryz.f71 [(7, vN), (8, vN), (9, vN), (24, vI 0), (106, vI 0)] [] [(4, [7, 8, 9, 24], [0, 1, 2, 22, 23]), (22, [106], [0, 14, 104, 105])] [9] _ H R = F_71 R x bridge classv H by kernel_rfl) h
def F_72 (R : VP) (x_0 x_1 x_2 x_3 x_4 : Int) (H : Heap) : Prop :=
 letH (H.push (.cells #[vI x_0, vI x_1, vI x_2, vI x_3, vU x_4] t_32 (0, 0))) (fun H1 =>
 letH (H1.push (.cells #[vO, vO, vO, vU (0 : Int)] t_47 (0, 0))) (fun H2 =>
 ∃ x, lI H2 (aZ H) x /\ (
 ∃ x1, lI H2 (aP H 1) x1 /\ (
 ∃ x2, lU H2 (aP H 4) x2 /\ (
 okRow H2 (aZ H1) 4 /\ (
 letH (wrs H2 (aZ H1) [vI (2 : Int), vI x, vI x1, vU x2]) (fun H3 =>
 ∃ r, lI H3 (aZ H1) r /\ ∃ r1, lI H3 (aP H1 1) r1 /\ ∃ r2, lI H3 (aP H1 2) r2 /\ ∃ r3, lU H3 (aP H1 3) r3 /\ (
 R (.agg #[vI r, vI r1, vI r2, vU r3]) H3))))))))
theorem F_72_ok {R : VP} (x_0 x_1 x_2 x_3 x_4 : Int) {H : Heap} (h : F_72 R x_0 x_1 x_2 x_3 x_4 H) : CallsH Tryz.prog n_72 #[.agg #[vI x_0, vI x_1, vI x_2, vI x_3, vU x_4]] H R := wpF_ok Tryz.func72 (show wpF Tryz.prog Tryz.f72 [] [] [] [9] _ H R = F_72 R x_0 x_1 x_2 x_3 x_4 H by kernel_rfl) h
def F_73_k1 (a : Sl) (I_ : Sl -> Sl -> Int -> Heap -> Prop) (M_ : Sl -> Sl -> Int -> Heap -> Nat) (items : Sl) (sizes : Sl) (x : Int) (H2 : Heap) (x4 : Bool) (H3 : Heap) : Prop :=
 iteB x4 (
 letH (H3.push (.cells #[.int .i64 x] t_3 (0, 0))) (fun H4 : Heap =>
 runH Tryz.prog (Builtin.append_ #[t_52, t_52] t_52 #[.slice items.p items.n items.c, .slice (some (⟨H3.size, 0, none⟩ : Addr)) 1 1]) H4 (fun v H5 =>
 ∃ items1 : Sl, v = .slice items1.p items1.n items1.c /\ (
 0 <= x /\ x < (a.n : Int) /\ (unSome a.p (fun a4 =>
 ∃ x5 : Int, rd H5 ((a4.add (x.toNat * 5)).add 3) = some (.int .i64 x5) /\ (
 letH (H5.push (.cells #[.int .i64 x5] t_3 (0, 0))) (fun H6 : Heap =>
 runH Tryz.prog (Builtin.append_ #[t_52, t_52] t_52 #[.slice sizes.p sizes.n sizes.c, .slice (some (⟨H5.size, 0, none⟩ : Addr)) 1 1]) H6 (fun v1 H7 =>
 ∃ sizes1 : Sl, v1 = .slice sizes1.p sizes1.n sizes1.c /\ (
 I_ items1 sizes1 (IntKind.i64.wrap (x + (1 : Int))) H7 /\ M_ items1 sizes1 (IntKind.i64.wrap (x + (1 : Int))) H7 < M_ items sizes x H2)))))))))) (
 I_ items sizes (IntKind.i64.wrap (x + (1 : Int))) H3 /\ M_ items sizes (IntKind.i64.wrap (x + (1 : Int))) H3 < M_ items sizes x H2)
def F_73_r2 (R : Value -> Heap -> Prop) (H : Heap) (a : Sl) (items : Sl) (x6 : Sl) (I_1 : Int -> Heap -> Prop) (M_1 : Int -> Heap -> Nat) (x16 : Int) (H13 : Heap) : Prop :=
 iteB (decide (x16 < (items.n : Int))) (
 0 <= x16 /\ x16 < (items.n : Int) /\ (unSome items.p (fun a5 =>
 ∃ i : Int, rd H13 (a5.add (x16.toNat * 1)) = some (.int .i64 i) /\ (
 0 <= x16 /\ x16 < (x6.n : Int) /\ (unSome x6.p (fun a6 =>
 ∃ x17 : Int, rd H13 (a6.add (x16.toNat * 1)) = some (.int .u64 x17) /\ (
 0 <= i /\ i < (a.n : Int) /\ (unSome a.p (fun a7 =>
 okRow H13 ((a7.add (i.toNat * 5)).add 4) 1 /\ (
 letH (wrs H13 ((a7.add (i.toNat * 5)).add 4) [.int .u64 x17]) (fun H14 : Heap =>
 I_1 (IntKind.i64.wrap (x16 + (1 : Int))) H14 /\ M_1 (IntKind.i64.wrap (x16 + (1 : Int))) H14 < M_1 x16 H13))))))))))) (
 okRow H13 (⟨H.size, 0, none⟩ : Addr) 4 /\ (
 letH (wrs H13 (⟨H.size, 0, none⟩ : Addr) [.int .i64 (0 : Int), .int .i64 (0 : Int), .int .u64 (0 : Int), .int .u64 (0 : Int)]) (fun H15 : Heap =>
 ∃ r4 : Int, rd H15 (⟨H.size, 0, none⟩ : Addr) = some (.int .i64 r4) /\ ∃ r5 : Int, rd H15 ((⟨H.size, 0, none⟩ : Addr).add 1) = some (.int .i64 r5) /\ ∃ r6 : Int, rd H15 ((⟨H.size, 0, none⟩ : Addr).add 2) = some (.int .u64 r6) /\ ∃ r7 : Int, rd H15 ((⟨H.size, 0, none⟩ : Addr).add 3) = some (.int .u64 r7) /\ (
 R (.tuple #[.agg #[.int .i64 r4, .int .i64 r5, .int .u64 r6, .int .u64 r7], .int .i64 (0 : Int)]) H15))))
def F_73_r3 (R : Value -> Heap -> Prop) (H : Heap) (l : Sl) (a : Sl) (bridge : Int) (classv : Int) (free : Sl) (I_ : Sl -> Sl -> Int -> Heap -> Prop) (M_ : Sl -> Sl -> Int -> Heap -> Nat) (items : Sl) (sizes : Sl) (x : Int) (H2 : Heap) : Prop :=
 iteB (decide (x < (a.n : Int))) (
 ∃ J_ : Bool -> Heap -> Prop, (
 0 <= x /\ x < (a.n : Int) /\ (unSome a.p (fun a1 =>
 ∃ x1 : Int, rd H2 ((a1.add (x.toNat * 5)).add 2) = some (.int .i64 x1) /\ (
 iteB (x1 == classv) (
 0 <= x /\ x < (a.n : Int) /\ (unSome a.p (fun a2 =>
 ∃ x2 : Int, rd H2 (a2.add (x.toNat * 5)) = some (.int .i64 x2) /\ (
 0 <= x2 /\ x2 < (l.n : Int) /\ (unSome l.p (fun a3 =>
 ∃ x3 : Int, rd H2 (a3.add (x2.toNat * 11)) = some (.int .i64 x3) /\ (
 J_ (x3 == bridge) H2))))))) (
 J_ false H2))))) /\ (∀ x4 : Bool, ∀ H3 : Heap, J_ x4 H3 -> F_73_k1 a I_ M_ items sizes x H2 x4 H3)) (
 CallsH Tryz.prog n_103 #[.slice free.p free.n free.c, .slice sizes.p sizes.n sizes.c] H2 (fun v2 H8 =>
 ∃ x6 : Sl, ∃ x7 : Int, ∃ x8 : Int, ∃ x9 : Int, ∃ x10 : Int, ∃ x11 : Int, v2 = .tuple #[.slice x6.p x6.n x6.c, .agg #[.int .i64 x7, .int .i64 x8, .int .u64 x9, .int .u64 x10], .int .i64 x11] /\ (
 letH (H8.push (.cells #[.int .i64 (0 : Int), .int .i64 (0 : Int), .int .u64 (0 : Int), .int .u64 (0 : Int)] t_39 (0, 0))) (fun H9 : Heap =>
 okRow H9 (⟨H8.size, 0, none⟩ : Addr) 4 /\ (
 letH (wrs H9 (⟨H8.size, 0, none⟩ : Addr) [.int .i64 x7, .int .i64 x8, .int .u64 x9, .int .u64 x10]) (fun H10 : Heap =>
 iteB (x11 != (0 : Int)) (
 okRow H10 (⟨H8.size, 0, none⟩ : Addr) 1 /\ (
 letH (wrs H10 (⟨H8.size, 0, none⟩ : Addr) [.int .i64 classv]) (fun H11 : Heap =>
 ∃ x12 : Int, rd H11 (⟨H8.size, 0, none⟩ : Addr) = some (.int .i64 x12) /\ ∃ x13 : Int, rd H11 ((⟨H8.size, 0, none⟩ : Addr).add 1) = some (.int .i64 x13) /\ ∃ x14 : Int, rd H11 ((⟨H8.size, 0, none⟩ : Addr).add 2) = some (.int .u64 x14) /\ ∃ x15 : Int, rd H11 ((⟨H8.size, 0, none⟩ : Addr).add 3) = some (.int .u64 x15) /\ (
 okRow H11 (⟨H.size, 0, none⟩ : Addr) 4 /\ (
 letH (wrs H11 (⟨H.size, 0, none⟩ : Addr) [.int .i64 x12, .int .i64 x13, .int .u64 x14, .int .u64 x15]) (fun H12 : Heap =>
 ∃ r : Int, rd H12 (⟨H.size, 0, none⟩ : Addr) = some (.int .i64 r) /\ ∃ r1 : Int, rd H12 ((⟨H.size, 0, none⟩ : Addr).add 1) = some (.int .i64 r1) /\ ∃ r2 : Int, rd H12 ((⟨H.size, 0, none⟩ : Addr).add 2) = some (.int .u64 r2) /\ ∃ r3 : Int, rd H12 ((⟨H.size, 0, none⟩ : Addr).add 3) = some (.int .u64 r3) /\ (
 R (.tuple #[.agg #[.int .i64 r, .int .i64 r1, .int .u64 r2, .int .u64 r3], .int .i64 x11]) H12))))))) (
 ∃ I_1 : Int -> Heap -> Prop, ∃ M_1 : Int -> Heap -> Nat, I_1 (0 : Int) H10 /\ (∀ x16 : Int, ∀ H13 : Heap, I_1 x16 H13 -> F_73_r2 R H a items x6 I_1 M_1 x16 H13))))))))
def F_73 (R : Value -> Heap -> Prop) (l : Sl) (a : Sl) (bridge : Int) (classv : Int) (free : Sl) (H : Heap) : Prop :=
 letH (H.push (.cells #[.int .i64 (0 : Int), .int .i64 (0 : Int), .int .u64 (0 : Int), .int .u64 (0 : Int)] t_39 (0, 0))) (fun H1 : Heap =>
 ∃ I_ : Sl -> Sl -> Int -> Heap -> Prop, ∃ M_ : Sl -> Sl -> Int -> Heap -> Nat, I_ (Sl.mk none 0 0) (Sl.mk none 0 0) (0 : Int) H1 /\ (∀ items : Sl, ∀ sizes : Sl, ∀ x : Int, ∀ H2 : Heap, I_ items sizes x H2 -> F_73_r3 R H l a bridge classv free I_ M_ items sizes x H2))
theorem F_73_ok {R : VP} (l a : Sl) (bridge classv : Int) (free : Sl) {H : Heap} (h : F_73 R l a bridge classv free H) : CallsH Tryz.prog n_73 #[vS l, vS a, vI bridge, vI classv, vS free] H R := wpF_ok Tryz.func73 (show wpF Tryz.prog Tryz.f73 [(12, vN), (13, vN), (22, vI 0), (46, .bool false), (76, vI 0)] [(6, [46], [0, 1, 2, 3, 4, 10, 12, 13, 14, 21, 22])] [(3, [12, 13, 22], [0, 1, 2, 3, 4, 10, 21]), (14, [76], [1, 10, 15, 74, 75])] [9] _ H R = F_73 R l a bridge classv free H by kernel_rfl) h
def F_74_k1 (H : Heap) (count : Int) (I_ : Int -> HP) (M_ : Int -> HN) (x : Int) (H2 : Heap) (f : Int) (x6 : Bool) (H5 : Heap) : Prop :=
 iteB x6 (
 0 <= f /\ f < (count.toNat : Int) /\ (∃ x7, lS H5 ((aZ H).add (f.toNat * 1)) x7 /\ (
 ∃ x8, lI H5 (aZ H2) x8 /\ ∃ x9, lI H5 (aP H2 1) x9 /\ ∃ x10, lI H5 (aP H2 2) x10 /\ ∃ x11, lI H5 (aP H2 3) x11 /\ ∃ x12, lU H5 (aP H2 4) x12 /\ (
 letH (H5.push (.cells #[vI x8, vI x9, vI x10, vI x11, vU x12] t_32 (0, 0))) (fun H6 =>
 Keeps H5 H6 [(((aZ H).add (f.toNat * 1)), 1)] /\ (
 runH Tryz.prog (Builtin.append_ #[t_33, t_33] t_33 #[vS x7, .slice (some (aZ H5)) 1 1]) H6 (fun v H7 =>
 ∃ x13 : Sl, v = vS x13 /\ (
 0 <= f /\ f < (count.toNat : Int) /\ (okRow H7 ((aZ H).add (f.toNat * 1)) 1 /\ (
 letH (wrs H7 ((aZ H).add (f.toNat * 1)) [vS x13]) (fun H8 =>
 I_ (i64.wrap (x + (1 : Int))) H8 /\ M_ (i64.wrap (x + (1 : Int))) H8 < M_ x H2))))))))))) (
 I_ (i64.wrap (x + (1 : Int))) H5 /\ M_ (i64.wrap (x + (1 : Int))) H5 < M_ x H2)
def F_74_r2 (R : VP) (H : Heap) (a : Sl) (count : Int) (I_ : Int -> HP) (M_ : Int -> HN) (x : Int) (H2 : Heap) : Prop :=
 iteB (decide (x < (a.n : Int))) (
 (xA x a (fun a1 =>
 ∃ x1, lI H2 (a1.add (x.toNat * 5)) x1 /\ ∃ x2, lI H2 ((a1.add (x.toNat * 5)).add 1) x2 /\ ∃ x3, lI H2 ((a1.add (x.toNat * 5)).add 2) x3 /\ ∃ x4, lI H2 ((a1.add (x.toNat * 5)).add 3) x4 /\ ∃ x5, lU H2 ((a1.add (x.toNat * 5)).add 4) x5 /\ (
 letH (H2.push (.cells #[vO, vO, vO, vO, vU (0 : Int)] t_32 (0, 0))) (fun H3 =>
 okRow H3 (aZ H2) 5 /\ (
 letH (wrs H3 (aZ H2) [vI x1, vI x2, vI x3, vI x4, vU x5]) (fun H4 =>
 ∃ f, lI H4 (aZ H2) f /\ (
 ∃ J_ : Bool -> HP, (
 iteB (decide (f >= (0 : Int))) (
 J_ (decide (f < count)) H4) (
 J_ false H4)) /\ (∀ x6 : Bool, ∀ H5 : Heap, J_ x6 H5 -> F_74_k1 H count I_ M_ x H2 f x6 H5))))))))) (
 R (.slice (some (aZ H)) count.toNat count.toNat) H2)
def F_74 (R : VP) (a : Sl) (count : Int) (H : Heap) : Prop :=
 0 <= count /\ count <= count /\ count * ((24 : Nat) : Int) <= 281474976710656 /\ (
 letH (H.push (.cells (zeroRow (vN) count.toNat) t_33 (0, 0))) (fun H1 =>
 ∃ I_ : Int -> HP, ∃ M_ : Int -> HN, I_ (0 : Int) H1 /\ (∀ x : Int, ∀ H2 : Heap, I_ x H2 -> F_74_r2 R H a count I_ M_ x H2)))
theorem F_74_ok {R : VP} (a : Sl) (count : Int) {H : Heap} (h : F_74 R a count H) : CallsH Tryz.prog n_74 #[vS a, vI count] H R := wpF_ok Tryz.func74 (show wpF Tryz.prog Tryz.f74 [(13, vI 0), (26, .bool false)] [(7, [26], [1, 5, 7, 8, 11, 12, 13])] [(3, [13], [1, 5, 11, 12])] [9] _ H R = F_74 R a count H by kernel_rfl) h
def F_75_r1 (R : VP) (s1 s2 : Sl) (I_ : Int -> HP) (M_ : Int -> HN) (x : Int) (H1 : Heap) : Prop :=
 iteB (decide (x < (s1.n : Int))) (
 (xA x s1 (fun a =>
 ∃ x1, lI H1 (a.add (x.toNat * 5)) x1 /\ ∃ x2, lI H1 ((a.add (x.toNat * 5)).add 1) x2 /\ ∃ x3, lI H1 ((a.add (x.toNat * 5)).add 2) x3 /\ ∃ x4, lI H1 ((a.add (x.toNat * 5)).add 3) x4 /\ ∃ x5, lU H1 ((a.add (x.toNat * 5)).add 4) x5 /\ (
 (xA x s2 (fun a1 =>
 ∃ x6, lI H1 (a1.add (x.toNat * 5)) x6 /\ ∃ x7, lI H1 ((a1.add (x.toNat * 5)).add 1) x7 /\ ∃ x8, lI H1 ((a1.add (x.toNat * 5)).add 2) x8 /\ ∃ x9, lI H1 ((a1.add (x.toNat * 5)).add 3) x9 /\ ∃ x10, lU H1 ((a1.add (x.toNat * 5)).add 4) x10 /\ (
 iteB (!(((x1 == x6) && ((x2 == x7) && ((x3 == x8) && ((x4 == x9) && true)))) && ((x5 == x10) && true))) (
 R (.bool false) H1) (
 I_ (i64.wrap (x + (1 : Int))) H1 /\ M_ (i64.wrap (x + (1 : Int))) H1 < M_ x H1)))))))) (
 R (.bool true) H1)
def F_75 (R : VP) (s1 s2 : Sl) (H : Heap) : Prop :=
 iteB ((s1.n : Int) != (s2.n : Int)) (
 R (.bool false) H) (
 ∃ I_ : Int -> HP, ∃ M_ : Int -> HN, I_ (0 : Int) H /\ (∀ x : Int, ∀ H1 : Heap, I_ x H1 -> F_75_r1 R s1 s2 I_ M_ x H1))
theorem F_75_ok {R : VP} (s1 s2 : Sl) {H : Heap} (h : F_75 R s1 s2 H) : CallsH Tryz.prog n_75 #[vS s1, vS s2] H R := wpF_ok Tryz.func75 (show wpF Tryz.prog Tryz.f75 [(13, vI 0)] [] [(4, [13], [0, 1, 12])] [9] _ H R = F_75 R s1 s2 H by kernel_rfl) h
def F_76 (R : VP) (a_0 a_1 a_2 a_3 a_4 : Int) (H : Heap) : Prop :=
 letH (H.push (.cells #[vI a_0, vI a_1, vI a_2, vI a_3, vU a_4] t_32 (0, 0))) (fun H1 =>
 letH (H1.push (.cells #[vU (0 : Int), vU (0 : Int)] t_95 (0, 0))) (fun H2 =>
 ∃ x, lU H2 (aP H 4) x /\ (
 ∃ x1, lI H2 (aP H 3) x1 /\ (
 0 <= (u64.wrap x1) /\ (
 okRow H2 (aZ H1) 2 /\ (
 letH (wrs H2 (aZ H1) [vU x, vU (u64.wrap ((1 : Int) * 2 ^ (min (u64.wrap x1).toNat IntKind.u64.bits)))]) (fun H3 =>
 ∃ r, lU H3 (aZ H1) r /\ ∃ r1, lU H3 (aP H1 1) r1 /\ (
 R (.agg #[vU r, vU r1]) H3))))))))
theorem F_76_ok {R : VP} (a_0 a_1 a_2 a_3 a_4 : Int) {H : Heap} (h : F_76 R a_0 a_1 a_2 a_3 a_4 H) : CallsH Tryz.prog n_76 #[.agg #[vI a_0, vI a_1, vI a_2, vI a_3, vU a_4]] H R := wpF_ok Tryz.func76 (show wpF Tryz.prog Tryz.f76 [] [] [] [9] _ H R = F_76 R a_0 a_1 a_2 a_3 a_4 H by kernel_rfl) h
def F_77_r1 (R : VP) (H : Heap) (free : Sl) (I_ : Int -> HP) (M_ : Int -> HN) (i : Int) (H2 : Heap) : Prop :=
 iteB (decide (i < (free.n : Int))) (
 ∃ x, lU H2 (aZ H) x /\ (
 (xA i free (fun a =>
 ∃ x1, lU H2 (a.add (i.toNat * 2)) x1 /\ (
 iteB (decide (x >= x1)) (
 ∃ x2, lU H2 (aZ H) x2 /\ (
 (xA i free (fun a1 =>
 ∃ x3, lU H2 (a1.add (i.toNat * 2)) x3 /\ (
 (xA i free (fun a2 =>
 ∃ x4, lU H2 ((a2.add (i.toNat * 2)).add 1) x4 /\ (
 iteB (decide ((u64.wrap (x2 - x3)) <= x4)) (
 ∃ x5, lU H2 (aP H 1) x5 /\ (
 (xA i free (fun a3 =>
 ∃ x6, lU H2 ((a3.add (i.toNat * 2)).add 1) x6 /\ (
 ∃ x7, lU H2 (aZ H) x7 /\ (
 (xA i free (fun a4 =>
 ∃ x8, lU H2 (a4.add (i.toNat * 2)) x8 /\ (
 iteB (decide (x5 <= (u64.wrap (x6 - (u64.wrap (x7 - x8)))))) (
 R (.bool true) H2) (
 letV (i64.wrap (i + (1 : Int))) (fun i1 =>
 I_ i1 H2 /\ M_ i1 H2 < M_ i H2))))))))))) (
 letV (i64.wrap (i + (1 : Int))) (fun i2 =>
 I_ i2 H2 /\ M_ i2 H2 < M_ i H2)))))))))) (
 letV (i64.wrap (i + (1 : Int))) (fun i3 =>
 I_ i3 H2 /\ M_ i3 H2 < M_ i H2))))))) (
 R (.bool false) H2)
def F_77 (R : VP) (free : Sl) (x_0 x_1 : Int) (H : Heap) : Prop :=
 letH (H.push (.cells #[vU x_0, vU x_1] t_95 (0, 0))) (fun H1 =>
 ∃ I_ : Int -> HP, ∃ M_ : Int -> HN, I_ (0 : Int) H1 /\ (∀ i : Int, ∀ H2 : Heap, I_ i H2 -> F_77_r1 R H free I_ M_ i H2))
theorem F_77_ok {R : VP} (free : Sl) (x_0 x_1 : Int) {H : Heap} (h : F_77 R free x_0 x_1 H) : CallsH Tryz.prog n_77 #[vS free, .agg #[vU x_0, vU x_1]] H R := wpF_ok Tryz.func77 (show wpF Tryz.prog Tryz.f77 [(5, vI 0)] [] [(2, [5], [0, 3])] [9] _ H R = F_77 R free x_0 x_1 H by kernel_rfl) h
def F_78_r1 (R : VP) (l a out : Sl) (n p classv : Int) (below : Sl) (I_ : Sl -> Sl -> Int -> HP) (M_ : Sl -> Sl -> Int -> HN) (fresh taken : Sl) (i : Int) (H2 : Heap) : Prop :=
 iteB (decide (i < (below.n : Int))) (
 (xA i below (fun a1 =>
 ∃ x, lI H2 (a1.add (i.toNat * 4)) x /\ (
 iteB (decide (x >= n)) (
 (xA i below (fun a2 =>
 ∃ x1, lI H2 (a2.add (i.toNat * 4)) x1 /\ ∃ x2, lI H2 ((a2.add (i.toNat * 4)).add 1) x2 /\ ∃ x3, lI H2 ((a2.add (i.toNat * 4)).add 2) x3 /\ ∃ x4, lI H2 ((a2.add (i.toNat * 4)).add 3) x4 /\ (
 letH (H2.push (.cells #[vI x1, vI x2, vI x3, vI x4] t_29 (0, 0))) (fun H3 =>
 runH Tryz.prog (Builtin.append_ #[t_53, t_53] t_53 #[vS fresh, .slice (some (aZ H2)) 1 1]) H3 (fun v1 H4 =>
 ∃ fresh1 : Sl, v1 = vS fresh1 /\ (
 letV (i64.wrap (i + (1 : Int))) (fun i1 =>
 I_ fresh1 taken i1 H4 /\ M_ fresh1 taken i1 H4 < M_ fresh taken i H2)))))))) (
 (xA i below (fun a3 =>
 ∃ x5, lI H2 (a3.add (i.toNat * 4)) x5 /\ (
 (xA i below (fun a4 =>
 ∃ x6, lI H2 ((a4.add (i.toNat * 4)).add 1) x6 /\ (
 CallsH Tryz.prog n_63 #[vS a, vI x5, vI x6] H2 (fun v2 H5 =>
 ∃ x7 : Int, v2 = vI x7 /\ (
 (xA x7 a (fun a5 =>
 ∃ x8, lI H5 (a5.add (x7.toNat * 5)) x8 /\ ∃ x9, lI H5 ((a5.add (x7.toNat * 5)).add 1) x9 /\ ∃ x10, lI H5 ((a5.add (x7.toNat * 5)).add 2) x10 /\ ∃ x11, lI H5 ((a5.add (x7.toNat * 5)).add 3) x11 /\ ∃ x12, lU H5 ((a5.add (x7.toNat * 5)).add 4) x12 /\ (
 CallsH Tryz.prog n_76 #[.agg #[vI x8, vI x9, vI x10, vI x11, vU x12]] H5 (fun v3 H6 =>
 ∃ x13 x14 : Int, v3 = .agg #[vU x13, vU x14] /\ (
 letH (H6.push (.cells #[vU x13, vU x14] t_95 (0, 0))) (fun H7 =>
 runH Tryz.prog (Builtin.append_ #[t_23, t_23] t_23 #[vS taken, .slice (some (aZ H6)) 1 1]) H7 (fun v4 H8 =>
 ∃ taken1 : Sl, v4 = vS taken1 /\ (
 letV (i64.wrap (i + (1 : Int))) (fun i2 =>
 I_ fresh taken1 i2 H8 /\ M_ fresh taken1 i2 H8 < M_ fresh taken i H2)))))))))))))))))))))) (
 iteB ((fresh.n : Int) == (0 : Int)) (
 R (.bool true) H2) (
 CallsH Tryz.prog n_63 #[vS out, vI p, vI (i64.wrap ((-1 : Int) - classv))] H2 (fun v5 H9 =>
 ∃ w : Int, v5 = vI w /\ (
 iteB (decide (w < (0 : Int))) (
 R (.bool false) H9) (
 (xA w out (fun a6 =>
 ∃ x15, lI H9 (a6.add (w.toNat * 5)) x15 /\ ∃ x16, lI H9 ((a6.add (w.toNat * 5)).add 1) x16 /\ ∃ x17, lI H9 ((a6.add (w.toNat * 5)).add 2) x17 /\ ∃ x18, lI H9 ((a6.add (w.toNat * 5)).add 3) x18 /\ ∃ x19, lU H9 ((a6.add (w.toNat * 5)).add 4) x19 /\ (
 CallsH Tryz.prog n_76 #[.agg #[vI x15, vI x16, vI x17, vI x18, vU x19]] H9 (fun v6 H10 =>
 ∃ x20 x21 : Int, v6 = .agg #[vU x20, vU x21] /\ (
 letH (H10.push (.cells #[vU x20, vU x21] t_95 (0, 0))) (fun H11 =>
 CallsH Tryz.prog n_58 #[.slice (some (aZ H10)) 1 1, vS taken] H11 (fun v7 H12 =>
 ∃ x22 : Sl, v7 = vS x22 /\ (
 CallsH Tryz.prog n_62 #[vS l, vS out, vS fresh, vI p, vI classv, vS x22] H12 (fun v8 H13 =>
 ∃ x23 x24 : Int, ∃ x25 x26 x27 : Int, v8 = .tuple #[.agg #[vI x23, vI x24, vU x25, vU x26], vI x27] /\ (
 letH (H13.push (.cells #[vO, vO, vU (0 : Int), vU (0 : Int)] t_39 (0, 0))) (fun H14 =>
 okRow H14 (aZ H13) 4 /\ (
 letH (wrs H14 (aZ H13) [vI x23, vI x24, vU x25, vU x26]) (fun H15 =>
 R (.bool (x27 == (0 : Int))) H15))))))))))))))))))
def F_78 (R : VP) (l a out needs : Sl) (n p classv : Int) (H : Heap) : Prop :=
 CallsH Tryz.prog n_17 #[vS l, vS needs, vI p, vI classv] H (fun v H1 =>
 ∃ below : Sl, v = vS below /\ (
 ∃ I_ : Sl -> Sl -> Int -> HP, ∃ M_ : Sl -> Sl -> Int -> HN, I_ (Sl.mk none 0 0) (Sl.mk none 0 0) (0 : Int) H1 /\ (∀ fresh taken : Sl, ∀ i : Int, ∀ H2 : Heap, I_ fresh taken i H2 -> F_78_r1 R l a out n p classv below I_ M_ fresh taken i H2)))
theorem F_78_ok {R : VP} (l a out needs : Sl) (n p classv : Int) {H : Heap} (h : F_78 R l a out needs n p classv H) : CallsH Tryz.prog n_78 #[vS l, vS a, vS out, vS needs, vI n, vI p, vI classv] H R := wpF_ok Tryz.func78 (show wpF Tryz.prog Tryz.f78 [(15, vN), (16, vN), (18, vI 0)] [] [(5, [15, 16, 18], [0, 1, 2, 4, 5, 6, 17])] [9] _ H R = F_78 R l a out needs n p classv H by kernel_rfl) h
def F_79_r1 (R : VP) (x y : Sl) (I_ : Int -> HP) (M_ : Int -> HN) (i : Int) (H3 : Heap) : Prop :=
 iteB (decide (i < (x.n : Int))) (
 (xA i x (fun a1 =>
 ∃ x1, lI H3 (a1.add (i.toNat * 5)) x1 /\ ∃ x2, lI H3 ((a1.add (i.toNat * 5)).add 1) x2 /\ ∃ x3, lI H3 ((a1.add (i.toNat * 5)).add 2) x3 /\ ∃ x4, lI H3 ((a1.add (i.toNat * 5)).add 3) x4 /\ ∃ x5, lU H3 ((a1.add (i.toNat * 5)).add 4) x5 /\ (
 (xA i y (fun a2 =>
 ∃ x6, lI H3 (a2.add (i.toNat * 5)) x6 /\ ∃ x7, lI H3 ((a2.add (i.toNat * 5)).add 1) x7 /\ ∃ x8, lI H3 ((a2.add (i.toNat * 5)).add 2) x8 /\ ∃ x9, lI H3 ((a2.add (i.toNat * 5)).add 3) x9 /\ ∃ x10, lU H3 ((a2.add (i.toNat * 5)).add 4) x10 /\ (
 iteB (!(((x1 == x6) && ((x2 == x7) && ((x3 == x8) && ((x4 == x9) && true)))) && ((x5 == x10) && true))) (
 R (.bool true) H3) (
 letV (i64.wrap (i + (1 : Int))) (fun i1 =>
 I_ i1 H3 /\ M_ i1 H3 < M_ i H3))))))))) (
 R (.bool false) H3)
def F_79 (R : VP) (a b : Sl) (f : Int) (H : Heap) : Prop :=
 CallsH Tryz.prog n_104 #[vS a, vI f] H (fun v H1 =>
 ∃ x : Sl, v = vS x /\ (
 CallsH Tryz.prog n_104 #[vS b, vI f] H1 (fun v1 H2 =>
 ∃ y : Sl, v1 = vS y /\ (
 iteB ((x.n : Int) != (y.n : Int)) (
 R (.bool true) H2) (
 ∃ I_ : Int -> HP, ∃ M_ : Int -> HN, I_ (0 : Int) H2 /\ (∀ i : Int, ∀ H3 : Heap, I_ i H3 -> F_79_r1 R x y I_ M_ i H3))))))
theorem F_79_ok {R : VP} (a b : Sl) (f : Int) {H : Heap} (h : F_79 R a b f H) : CallsH Tryz.prog n_79 #[vS a, vS b, vI f] H R := wpF_ok Tryz.func79 (show wpF Tryz.prog Tryz.f79 [(9, vI 0)] [] [(5, [9], [7, 8])] [9] _ H R = F_79 R a b f H by kernel_rfl) h
def F_80 (R : VP) (s : Addr) (state : Int) (actions : Sl) (H : Heap) : Prop :=
 okRow H s 1 /\ (
 letH (wrs H s [vI state]) (fun H1 =>
 iteB (state != (3 : Int)) (
 okRow H1 (s.add 2) 1 /\ (
 letH (wrs H1 (s.add 2) [vU (0 : Int)]) (fun H2 =>
 R (.tuple #[vS actions, vO]) H2))) (
 R (.tuple #[vS actions, vO]) H1)))
theorem F_80_ok {R : VP} (s : Addr) (state : Int) (actions : Sl) {H : Heap} (h : F_80 R s state actions H) : CallsH Tryz.prog n_80 #[.pointer (some s), vI state, vS actions] H R := wpF_ok Tryz.func80 (show wpF Tryz.prog Tryz.f80 [] [] [] [9] _ H R = F_80 R s state actions H by kernel_rfl) h
def F_81 (R : VP) (a b : Int) (H : Heap) : Prop :=
 iteB (decide (a > (u64.wrap ((18446744073709551615 : Int) - b)))) (
 R (vU (18446744073709551615 : Int)) H) (
 letV (u64.wrap (a + b)) (fun x =>
 R (vU x) H))
theorem F_81_ok {R : VP} (a b : Int) {H : Heap} (h : F_81 R a b H) : CallsH Tryz.prog n_81 #[vU a, vU b] H R := wpF_ok Tryz.func81 (show wpF Tryz.prog Tryz.f81 [] [] [] [9] _ H R = F_81 R a b H by kernel_rfl) h
def F_82_r1 (R : Value -> Heap -> Prop) (H : Heap) (x23 : Sl) (I_ : Int -> Heap -> Prop) (M_ : Int -> Heap -> Nat) (x24 : Int) (H5 : Heap) : Prop :=
 iteB (decide (x24 < (x23.n : Int))) (
 ∃ x25 : Sl, rd H5 ((⟨H.size, 0, none⟩ : Addr).add 10) = some (.slice x25.p x25.n x25.c) /\ (
 CallsH Tryz.prog n_106 #[.slice x25.p x25.n x25.c, .int .i64 x24] H5 (fun v1 H6 =>
 ∃ x26 : Bool, v1 = .bool x26 /\ (
 iteB (!x26) (
 R (.bool false) H6) (
 I_ (IntKind.i64.wrap (x24 + (1 : Int))) H6 /\ M_ (IntKind.i64.wrap (x24 + (1 : Int))) H6 < M_ x24 H5))))) (
 R (.bool true) H5)
def F_82_k2 (R : Value -> Heap -> Prop) (H : Heap) (H3 : Heap) : Prop :=
 ∃ x20 : Sl, rd H3 ((⟨H.size, 0, none⟩ : Addr).add 10) = some (.slice x20.p x20.n x20.c) /\ (
 ∃ x21 : Bool, rd H3 ((⟨H.size, 0, none⟩ : Addr).add 4) = some (.bool x21) /\ (
 CallsH Tryz.prog n_105 #[.bool x21] H3 (fun v H4 =>
 ∃ x22 : Int, v = .int .i64 x22 /\ (
 Keeps H3 H4 [(((⟨H.size, 0, none⟩ : Addr).add 10), 1)] /\ (
 iteB (decide ((x20.n : Int) > x22)) (
 R (.bool false) H4) (
 ∃ x23 : Sl, rd H4 ((⟨H.size, 0, none⟩ : Addr).add 10) = some (.slice x23.p x23.n x23.c) /\ (
 ∃ I_ : Int -> Heap -> Prop, ∃ M_ : Int -> Heap -> Nat, I_ (0 : Int) H4 /\ (∀ x24 : Int, ∀ H5 : Heap, I_ x24 H5 -> F_82_r1 R H x23 I_ M_ x24 H5))))))))
def F_82_k3 (R : Value -> Heap -> Prop) (H : Heap) (H2 : Heap) : Prop :=
 ∃ J_1 : Heap -> Prop, (
 ∃ x17 : Bool, rd H2 ((⟨H.size, 0, none⟩ : Addr).add 4) = some (.bool x17) /\ (
 iteB (!x17) (
 ∃ x18 : Bool, rd H2 ((⟨H.size, 0, none⟩ : Addr).add 5) = some (.bool x18) /\ (
 iteB x18 (
 R (.bool false) H2) (
 ∃ x19 : Bool, rd H2 ((⟨H.size, 0, none⟩ : Addr).add 6) = some (.bool x19) /\ (
 iteB x19 (
 R (.bool false) H2) (
 J_1 H2))))) (
 J_1 H2))) /\ (∀ H3 : Heap, J_1 H3 -> F_82_k2 R H H3)
def F_82 (R : Value -> Heap -> Prop) (f_0 : Int) (f_1 : Int) (f_2 : Int) (f_3 : Int) (f_4 : Bool) (f_5 : Bool) (f_6 : Bool) (f_7 : Int) (f_8 : Int) (f_9 : Int) (f_10 : Sl) (H : Heap) : Prop :=
 letH (H.push (.cells #[.int .i64 f_0, .int .i64 f_1, .int .i64 f_2, .int .i64 f_3, .bool f_4, .bool f_5, .bool f_6, .int .i64 f_7, .int .i64 f_8, .int .i64 f_9, .slice f_10.p f_10.n f_10.c] t_58 (0, 0))) (fun H1 : Heap =>
 ∃ x : Int, rd H1 ((⟨H.size, 0, none⟩ : Addr).add 2) = some (.int .i64 x) /\ (
 iteB (decide (x < (1 : Int))) (
 R (.bool false) H1) (
 ∃ x1 : Int, rd H1 ((⟨H.size, 0, none⟩ : Addr).add 2) = some (.int .i64 x1) /\ (
 iteB (decide (x1 > (65534 : Int))) (
 R (.bool false) H1) (
 ∃ x2 : Int, rd H1 ((⟨H.size, 0, none⟩ : Addr).add 3) = some (.int .i64 x2) /\ (
 iteB (decide (x2 < (0 : Int))) (
 R (.bool false) H1) (
 ∃ x3 : Int, rd H1 ((⟨H.size, 0, none⟩ : Addr).add 3) = some (.int .i64 x3) /\ (
 iteB (decide (x3 > (65535 : Int))) (
 R (.bool false) H1) (
 ∃ x4 : Int, rd H1 ((⟨H.size, 0, none⟩ : Addr).add 1) = some (.int .i64 x4) /\ (
 iteB (decide (x4 < (0 : Int))) (
 R (.bool false) H1) (
 ∃ x5 : Int, rd H1 ((⟨H.size, 0, none⟩ : Addr).add 1) = some (.int .i64 x5) /\ (
 iteB (decide (x5 > (31 : Int))) (
 R (.bool false) H1) (
 ∃ x6 : Int, rd H1 ((⟨H.size, 0, none⟩ : Addr).add 8) = some (.int .i64 x6) /\ (
 iteB (decide (x6 < (0 : Int))) (
 R (.bool false) H1) (
 ∃ x7 : Int, rd H1 ((⟨H.size, 0, none⟩ : Addr).add 8) = some (.int .i64 x7) /\ (
 iteB (decide (x7 > (4 : Int))) (
 R (.bool false) H1) (
 ∃ x8 : Int, rd H1 ((⟨H.size, 0, none⟩ : Addr).add 9) = some (.int .i64 x8) /\ (
 iteB (decide (x8 < (0 : Int))) (
 R (.bool false) H1) (
 ∃ x9 : Int, rd H1 ((⟨H.size, 0, none⟩ : Addr).add 9) = some (.int .i64 x9) /\ (
 iteB (decide (x9 > (32 : Int))) (
 R (.bool false) H1) (
 ∃ x10 : Int, rd H1 ((⟨H.size, 0, none⟩ : Addr).add 9) = some (.int .i64 x10) /\ (
 ∃ x11 : Int, rd H1 ((⟨H.size, 0, none⟩ : Addr).add 9) = some (.int .i64 x11) /\ (
 iteB ((bitsAnd .i64 x10 (IntKind.i64.wrap (x11 - (1 : Int)))) != (0 : Int)) (
 R (.bool false) H1) (
 ∃ J_ : Heap -> Prop, (
 ∃ x12 : Int, rd H1 ((⟨H.size, 0, none⟩ : Addr).add 7) = some (.int .i64 x12) /\ (
 iteB (decide (x12 < (0 : Int))) (
 R (.bool false) H1) (
 ∃ x13 : Int, rd H1 ((⟨H.size, 0, none⟩ : Addr).add 7) = some (.int .i64 x13) /\ (
 iteB (decide (x13 > (32 : Int))) (
 R (.bool false) H1) (
 ∃ x14 : Int, rd H1 ((⟨H.size, 0, none⟩ : Addr).add 7) = some (.int .i64 x14) /\ (
 iteB (decide (x14 > (0 : Int))) (
 ∃ x15 : Bool, rd H1 ((⟨H.size, 0, none⟩ : Addr).add 4) = some (.bool x15) /\ (
 iteB x15 (
 ∃ x16 : Bool, rd H1 ((⟨H.size, 0, none⟩ : Addr).add 6) = some (.bool x16) /\ (
 iteB (!x16) (
 R (.bool false) H1) (
 J_ H1))) (
 R (.bool false) H1))) (
 J_ H1))))))) /\ (∀ H2 : Heap, J_ H2 -> F_82_k3 R H H2)))))))))))))))))))))))))
theorem F_82_ok {R : VP} (f_0 f_1 f_2 f_3 : Int) (f_4 f_5 f_6 : Bool) (f_7 f_8 f_9 : Int) (f_10 : Sl) {H : Heap} (h : F_82 R f_0 f_1 f_2 f_3 f_4 f_5 f_6 f_7 f_8 f_9 f_10 H) : CallsH Tryz.prog n_82 #[.agg #[vI f_0, vI f_1, vI f_2, vI f_3, .bool f_4, .bool f_5, .bool f_6, vI f_7, vI f_8, vI f_9, vS f_10]] H R := wpF_ok Tryz.func82 (show wpF Tryz.prog Tryz.f82 [(100, vI 0)] [(9, [], [1]), (11, [], [1])] [(14, [100], [1, 99])] [9] _ H R = F_82 R f_0 f_1 f_2 f_3 f_4 f_5 f_6 f_7 f_8 f_9 f_10 H by kernel_rfl) h
def F_83 (R : VP) (l : Sl) (H : Heap) : Prop :=
 iteB (decide ((l.n : Int) <= (1024 : Int))) (
 CallsH Tryz.prog n_84 #[vS l, vU (0 : Int), vU (4503599627370496 : Int)] H (fun v H1 =>
 ∃ x : Bool, v = .bool x /\ (
 R (.bool x) H1))) (
 R (.bool false) H)
theorem F_83_ok {R : VP} (l : Sl) {H : Heap} (h : F_83 R l H) : CallsH Tryz.prog n_83 #[vS l] H R := wpF_ok Tryz.func83 (show wpF Tryz.prog Tryz.f83 [] [] [] [9] _ H R = F_83 R l H by kernel_rfl) h
def F_84_r1 (R : VP) (l : Sl) (base endv : Int) (I_ : Int -> HP) (M_ : Int -> HN) (x : Int) (H1 : Heap) : Prop :=
 iteB (decide (x < (l.n : Int))) (
 (xA x l (fun a =>
 ∃ x1, lU H1 (a.add (x.toNat * 2)) x1 /\ ∃ x2, lU H1 ((a.add (x.toNat * 2)).add 1) x2 /\ (
 letH (H1.push (.cells #[vU (0 : Int), vU (0 : Int)] t_95 (0, 0))) (fun H2 =>
 okRow H2 (aZ H1) 2 /\ (
 letH (wrs H2 (aZ H1) [vU x1, vU x2]) (fun H3 =>
 ∃ x3, lU H3 (aP H1 1) x3 /\ (
 iteB (decide (x3 < (1 : Int))) (
 R (.bool false) H3) (
 ∃ x4, lU H3 (aZ H1) x4 /\ (
 iteB (decide (x4 < base)) (
 R (.bool false) H3) (
 ∃ x5, lU H3 (aZ H1) x5 /\ (
 iteB (decide (x5 > endv)) (
 R (.bool false) H3) (
 ∃ x6, lU H3 (aP H1 1) x6 /\ (
 ∃ x7, lU H3 (aZ H1) x7 /\ (
 iteB (decide (x6 > (u64.wrap (endv - x7)))) (
 R (.bool false) H3) (
 I_ (i64.wrap (x + (1 : Int))) H3 /\ M_ (i64.wrap (x + (1 : Int))) H3 < M_ x H1)))))))))))))))) (
 R (.bool true) H1)
def F_84 (R : VP) (l : Sl) (base endv : Int) (H : Heap) : Prop :=
 ∃ I_ : Int -> HP, ∃ M_ : Int -> HN, I_ (0 : Int) H /\ (∀ x : Int, ∀ H1 : Heap, I_ x H1 -> F_84_r1 R l base endv I_ M_ x H1)
theorem F_84_ok {R : VP} (l : Sl) (base endv : Int) {H : Heap} (h : F_84 R l base endv H) : CallsH Tryz.prog n_84 #[vS l, vU base, vU endv] H R := wpF_ok Tryz.func84 (show wpF Tryz.prog Tryz.f84 [(11, vI 0)] [] [(2, [11], [1, 2, 9, 10])] [9] _ H R = F_84 R l base endv H by kernel_rfl) h
def F_85_k1 (endv : Int) (I_1 : Sl -> Int -> Int -> HP) (M_1 : Sl -> Int -> Int -> HN) (result1 : Sl) (base1 x8 : Int) (H8 : Heap) (holeEnd : Int) (result3 : Sl) (H13 : Heap) : Prop :=
 letV (if holeEnd < endv then holeEnd else endv) (fun base2 =>
 I_1 result3 base2 (i64.wrap (x8 + (1 : Int))) H13 /\ M_1 result3 base2 (i64.wrap (x8 + (1 : Int))) H13 < M_1 result1 base1 x8 H8)
def F_85_r2 (holes : Sl) (I_ : Sl -> Int -> HP) (M_ : Sl -> Int -> HN) (result : Sl) (x3 : Int) (H5 : Heap) (endv : Int) (I_1 : Sl -> Int -> Int -> HP) (M_1 : Sl -> Int -> Int -> HN) (result1 : Sl) (base1 x8 : Int) (H8 : Heap) : Prop :=
 iteB (decide (x8 < (holes.n : Int))) (
 (xA x8 holes (fun a1 =>
 ∃ x9, lU H8 (a1.add (x8.toNat * 2)) x9 /\ ∃ x10, lU H8 ((a1.add (x8.toNat * 2)).add 1) x10 /\ (
 letH (H8.push (.cells #[vU (0 : Int), vU (0 : Int)] t_95 (0, 0))) (fun H9 =>
 okRow H9 (aZ H8) 2 /\ (
 letH (wrs H9 (aZ H8) [vU x9, vU x10]) (fun H10 =>
 ∃ x11, lU H10 (aZ H8) x11 /\ (
 ∃ x12, lU H10 (aP H8 1) x12 /\ (
 letV (u64.wrap (x11 + x12)) (fun holeEnd =>
 iteB (decide (holeEnd <= base1)) (
 I_1 result1 base1 (i64.wrap (x8 + (1 : Int))) H10 /\ M_1 result1 base1 (i64.wrap (x8 + (1 : Int))) H10 < M_1 result1 base1 x8 H8) (
 ∃ x13, lU H10 (aZ H8) x13 /\ (
 iteB (decide (x13 >= endv)) (
 I_1 result1 base1 (i64.wrap (x8 + (1 : Int))) H10 /\ M_1 result1 base1 (i64.wrap (x8 + (1 : Int))) H10 < M_1 result1 base1 x8 H8) (
 ∃ J_ : Sl -> HP, (
 ∃ x14, lU H10 (aZ H8) x14 /\ (
 iteB (decide (x14 > base1)) (
 ∃ x15, lU H10 (aZ H8) x15 /\ (
 letH (H10.push (.cells #[vU base1, vU (u64.wrap (x15 - base1))] t_95 (0, 0))) (fun H11 =>
 runH Tryz.prog (Builtin.append_ #[t_23, t_23] t_23 #[vS result1, .slice (some (aZ H10)) 1 1]) H11 (fun v4 H12 =>
 ∃ result2 : Sl, v4 = vS result2 /\ (
 J_ result2 H12))))) (
 J_ result1 H10))) /\ (∀ result3 : Sl, ∀ H13 : Heap, J_ result3 H13 -> F_85_k1 endv I_1 M_1 result1 base1 x8 H8 holeEnd result3 H13)))))))))))))) (
 iteB (decide (base1 < endv)) (
 letH (H8.push (.cells #[vU base1, vU (u64.wrap (endv - base1))] t_95 (0, 0))) (fun H14 =>
 runH Tryz.prog (Builtin.append_ #[t_23, t_23] t_23 #[vS result1, .slice (some (aZ H8)) 1 1]) H14 (fun v5 H15 =>
 ∃ result4 : Sl, v5 = vS result4 /\ (
 I_ result4 (i64.wrap (x3 + (1 : Int))) H15 /\ M_ result4 (i64.wrap (x3 + (1 : Int))) H15 < M_ result x3 H5)))) (
 I_ result1 (i64.wrap (x3 + (1 : Int))) H8 /\ M_ result1 (i64.wrap (x3 + (1 : Int))) H8 < M_ result x3 H5))
def F_85_r3 (R : VP) (holes x2 : Sl) (I_ : Sl -> Int -> HP) (M_ : Sl -> Int -> HN) (result : Sl) (x3 : Int) (H5 : Heap) : Prop :=
 iteB (decide (x3 < (x2.n : Int))) (
 (xA x3 x2 (fun a =>
 ∃ x4, lU H5 (a.add (x3.toNat * 2)) x4 /\ ∃ x5, lU H5 ((a.add (x3.toNat * 2)).add 1) x5 /\ (
 letH (H5.push (.cells #[vU (0 : Int), vU (0 : Int)] t_95 (0, 0))) (fun H6 =>
 okRow H6 (aZ H5) 2 /\ (
 letH (wrs H6 (aZ H5) [vU x4, vU x5]) (fun H7 =>
 ∃ base, lU H7 (aZ H5) base /\ (
 ∃ x6, lU H7 (aZ H5) x6 /\ (
 ∃ x7, lU H7 (aP H5 1) x7 /\ (
 letV (u64.wrap (x6 + x7)) (fun endv =>
 ∃ I_1 : Sl -> Int -> Int -> HP, ∃ M_1 : Sl -> Int -> Int -> HN, I_1 result base (0 : Int) H7 /\ (∀ result1 : Sl, ∀ base1 x8 : Int, ∀ H8 : Heap, I_1 result1 base1 x8 H8 -> F_85_r2 holes I_ M_ result x3 H5 endv I_1 M_1 result1 base1 x8 H8)))))))))))) (
 R (vS result) H5)
def F_85 (R : VP) (l fixed : Sl) (H : Heap) : Prop :=
 CallsH Tryz.prog n_83 #[vS l] H (fun v H1 =>
 ∃ x : Bool, v = .bool x /\ (
 iteB (!x) (
 R (vN) H1) (
 CallsH Tryz.prog n_83 #[vS fixed] H1 (fun v1 H2 =>
 ∃ x1 : Bool, v1 = .bool x1 /\ (
 iteB (!x1) (
 R (vN) H2) (
 CallsH Tryz.prog n_91 #[vS fixed] H2 (fun v2 H3 =>
 ∃ holes : Sl, v2 = vS holes /\ (
 CallsH Tryz.prog n_91 #[vS l] H3 (fun v3 H4 =>
 ∃ x2 : Sl, v3 = vS x2 /\ (
 ∃ I_ : Sl -> Int -> HP, ∃ M_ : Sl -> Int -> HN, I_ (Sl.mk none 0 0) (0 : Int) H4 /\ (∀ result : Sl, ∀ x3 : Int, ∀ H5 : Heap, I_ result x3 H5 -> F_85_r3 R holes x2 I_ M_ result x3 H5)))))))))))
theorem F_85_ok {R : VP} (l fixed : Sl) {H : Heap} (h : F_85 R l fixed H) : CallsH Tryz.prog n_85 #[vS l, vS fixed] H R := wpF_ok Tryz.func85 (show wpF Tryz.prog Tryz.f85 [(5, vN), (9, vU 0), (27, vI 0), (40, vI 0)] [(16, [5], [6, 10, 13, 25, 26, 27, 38, 39, 40])] [(6, [5, 27], [6, 25, 26]), (10, [5, 9, 40], [6, 10, 25, 26, 27, 38, 39])] [9] _ H R = F_85 R l fixed H by kernel_rfl) h
def F_86_k1 (R : Value -> Heap -> Prop) (H : Heap) (I_ : Int -> Heap -> Prop) (M_ : Int -> Heap -> Nat) (i : Int) (H4 : Heap) (x46 : Bool) (H7 : Heap) : Prop :=
 iteB x46 (
 ∃ x47 : Int, rd H7 ((⟨H4.size, 0, none⟩ : Addr).add 1) = some (.int .i64 x47) /\ (
 iteB (decide (x47 < (4 : Int))) (
 R (.bool false) H7) (
 ∃ x48 : Int, rd H7 ((⟨H4.size, 0, none⟩ : Addr).add 1) = some (.int .i64 x48) /\ (
 iteB (decide (x48 > (40 : Int))) (
 R (.bool false) H7) (
 ∃ x49 : Sl, rd H7 ((⟨H.size, 0, none⟩ : Addr).add 10) = some (.slice x49.p x49.n x49.c) /\ (
 iteB (decide ((IntKind.i64.wrap (i + (1 : Int))) >= (x49.n : Int))) (
 R (.bool false) H7) (
 ∃ x50 : Sl, rd H7 ((⟨H.size, 0, none⟩ : Addr).add 10) = some (.slice x50.p x50.n x50.c) /\ (
 0 <= (IntKind.i64.wrap (i + (1 : Int))) /\ (IntKind.i64.wrap (i + (1 : Int))) < (x50.n : Int) /\ (unSome x50.p (fun a1 =>
 ∃ x51 : Int, rd H7 (a1.add ((IntKind.i64.wrap (i + (1 : Int))).toNat * 2)) = some (.int .i64 x51) /\ (
 iteB (x51 != (0 : Int)) (
 R (.bool false) H7) (
 letV (IntKind.i64.wrap (i + (1 : Int))) (fun i4 : Int =>
 I_ i4 H7 /\ M_ i4 H7 < M_ i H4))))))))))))) (
 R (.bool false) H7)
def F_86_r2 (R : Value -> Heap -> Prop) (H : Heap) (I_ : Int -> Heap -> Prop) (M_ : Int -> Heap -> Nat) (i : Int) (H4 : Heap) : Prop :=
 ∃ x36 : Sl, rd H4 ((⟨H.size, 0, none⟩ : Addr).add 10) = some (.slice x36.p x36.n x36.c) /\ (
 iteB (decide (i < (x36.n : Int))) (
 ∃ x37 : Sl, rd H4 ((⟨H.size, 0, none⟩ : Addr).add 10) = some (.slice x37.p x37.n x37.c) /\ (
 0 <= i /\ i < (x37.n : Int) /\ (unSome x37.p (fun a =>
 ∃ x38 : Int, rd H4 (a.add (i.toNat * 2)) = some (.int .i64 x38) /\ ∃ x39 : Int, rd H4 ((a.add (i.toNat * 2)).add 1) = some (.int .i64 x39) /\ (
 letH (H4.push (.cells #[.int .i64 (0 : Int), .int .i64 (0 : Int)] t_101 (0, 0))) (fun H5 : Heap =>
 okRow H5 (⟨H4.size, 0, none⟩ : Addr) 2 /\ (
 letH (wrs H5 (⟨H4.size, 0, none⟩ : Addr) [.int .i64 x38, .int .i64 x39]) (fun H6 : Heap =>
 ∃ x40 : Int, rd H6 (⟨H4.size, 0, none⟩ : Addr) = some (.int .i64 x40) /\ (
 iteB (x40 == (0 : Int)) (
 ∃ x41 : Int, rd H6 ((⟨H4.size, 0, none⟩ : Addr).add 1) = some (.int .i64 x41) /\ (
 iteB (x41 != (0 : Int)) (
 R (.bool false) H6) (
 letV (IntKind.i64.wrap (i + (1 : Int))) (fun i1 : Int =>
 I_ i1 H6 /\ M_ i1 H6 < M_ i H4)))) (
 iteB (x40 == (1 : Int)) (
 ∃ x42 : Int, rd H6 ((⟨H4.size, 0, none⟩ : Addr).add 1) = some (.int .i64 x42) /\ (
 iteB (decide (x42 < (2 : Int))) (
 R (.bool false) H6) (
 ∃ x43 : Int, rd H6 ((⟨H4.size, 0, none⟩ : Addr).add 1) = some (.int .i64 x43) /\ (
 iteB (decide (x43 > (8 : Int))) (
 R (.bool false) H6) (
 letV (IntKind.i64.wrap (i + (1 : Int))) (fun i2 : Int =>
 I_ i2 H6 /\ M_ i2 H6 < M_ i H4)))))) (
 iteB (x40 == (2 : Int)) (
 ∃ x44 : Int, rd H6 ((⟨H4.size, 0, none⟩ : Addr).add 1) = some (.int .i64 x44) /\ (
 iteB (decide (x44 < (4 : Int))) (
 R (.bool false) H6) (
 ∃ x45 : Int, rd H6 ((⟨H4.size, 0, none⟩ : Addr).add 1) = some (.int .i64 x45) /\ (
 iteB (decide (x45 > (31 : Int))) (
 R (.bool false) H6) (
 letV (IntKind.i64.wrap (i + (1 : Int))) (fun i3 : Int =>
 I_ i3 H6 /\ M_ i3 H6 < M_ i H4)))))) (
 ∃ J_1 : Bool -> Heap -> Prop, (
 iteB (x40 == (3 : Int)) (
 J_1 true H6) (
 J_1 (x40 == (4 : Int)) H6)) /\ (∀ x46 : Bool, ∀ H7 : Heap, J_1 x46 H7 -> F_86_k1 R H I_ M_ i H4 x46 H7))))))))))))) (
 R (.bool true) H4))
def F_86_k3 (R : Value -> Heap -> Prop) (H : Heap) (H2 : Heap) : Prop :=
 ∃ x23 : Sl, rd H2 ((⟨H.size, 0, none⟩ : Addr).add 10) = some (.slice x23.p x23.n x23.c) /\ (
 ∃ x24 : Int, rd H2 (⟨H.size, 0, none⟩ : Addr) = some (.int .i64 x24) /\ ∃ x25 : Int, rd H2 ((⟨H.size, 0, none⟩ : Addr).add 1) = some (.int .i64 x25) /\ ∃ x26 : Int, rd H2 ((⟨H.size, 0, none⟩ : Addr).add 2) = some (.int .i64 x26) /\ ∃ x27 : Int, rd H2 ((⟨H.size, 0, none⟩ : Addr).add 3) = some (.int .i64 x27) /\ ∃ x28 : Bool, rd H2 ((⟨H.size, 0, none⟩ : Addr).add 4) = some (.bool x28) /\ ∃ x29 : Bool, rd H2 ((⟨H.size, 0, none⟩ : Addr).add 5) = some (.bool x29) /\ ∃ x30 : Bool, rd H2 ((⟨H.size, 0, none⟩ : Addr).add 6) = some (.bool x30) /\ ∃ x31 : Int, rd H2 ((⟨H.size, 0, none⟩ : Addr).add 7) = some (.int .i64 x31) /\ ∃ x32 : Int, rd H2 ((⟨H.size, 0, none⟩ : Addr).add 8) = some (.int .i64 x32) /\ ∃ x33 : Int, rd H2 ((⟨H.size, 0, none⟩ : Addr).add 9) = some (.int .i64 x33) /\ ∃ x34 : Sl, rd H2 ((⟨H.size, 0, none⟩ : Addr).add 10) = some (.slice x34.p x34.n x34.c) /\ (
 CallsH Tryz.prog n_107 #[.agg #[.int .i64 x24, .int .i64 x25, .int .i64 x26, .int .i64 x27, .bool x28, .bool x29, .bool x30, .int .i64 x31, .int .i64 x32, .int .i64 x33, .slice x34.p x34.n x34.c]] H2 (fun v H3 =>
 ∃ x35 : Int, v = .int .i64 x35 /\ (
 Keeps H2 H3 [(((⟨H.size, 0, none⟩ : Addr).add 10), 1)] /\ (
 iteB (decide ((x23.n : Int) > x35)) (
 R (.bool false) H3) (
 ∃ I_ : Int -> Heap -> Prop, ∃ M_ : Int -> Heap -> Nat, I_ (0 : Int) H3 /\ (∀ i : Int, ∀ H4 : Heap, I_ i H4 -> F_86_r2 R H I_ M_ i H4)))))))
def F_86 (R : Value -> Heap -> Prop) (f_0 : Int) (f_1 : Int) (f_2 : Int) (f_3 : Int) (f_4 : Bool) (f_5 : Bool) (f_6 : Bool) (f_7 : Int) (f_8 : Int) (f_9 : Int) (f_10 : Sl) (H : Heap) : Prop :=
 letH (H.push (.cells #[.int .i64 f_0, .int .i64 f_1, .int .i64 f_2, .int .i64 f_3, .bool f_4, .bool f_5, .bool f_6, .int .i64 f_7, .int .i64 f_8, .int .i64 f_9, .slice f_10.p f_10.n f_10.c] t_58 (0, 0))) (fun H1 : Heap =>
 ∃ x : Int, rd H1 ((⟨H.size, 0, none⟩ : Addr).add 2) = some (.int .i64 x) /\ (
 iteB (decide (x < (1 : Int))) (
 R (.bool false) H1) (
 ∃ x1 : Int, rd H1 ((⟨H.size, 0, none⟩ : Addr).add 2) = some (.int .i64 x1) /\ (
 iteB (decide (x1 > (65534 : Int))) (
 R (.bool false) H1) (
 ∃ x2 : Int, rd H1 ((⟨H.size, 0, none⟩ : Addr).add 3) = some (.int .i64 x2) /\ (
 iteB (decide (x2 < (0 : Int))) (
 R (.bool false) H1) (
 ∃ x3 : Int, rd H1 ((⟨H.size, 0, none⟩ : Addr).add 3) = some (.int .i64 x3) /\ (
 iteB (decide (x3 > (65535 : Int))) (
 R (.bool false) H1) (
 ∃ x4 : Int, rd H1 ((⟨H.size, 0, none⟩ : Addr).add 1) = some (.int .i64 x4) /\ (
 iteB (decide (x4 < (0 : Int))) (
 R (.bool false) H1) (
 ∃ x5 : Int, rd H1 ((⟨H.size, 0, none⟩ : Addr).add 1) = some (.int .i64 x5) /\ (
 iteB (decide (x5 > (31 : Int))) (
 R (.bool false) H1) (
 ∃ x6 : Int, rd H1 ((⟨H.size, 0, none⟩ : Addr).add 8) = some (.int .i64 x6) /\ (
 iteB (decide (x6 < (0 : Int))) (
 R (.bool false) H1) (
 ∃ x7 : Int, rd H1 ((⟨H.size, 0, none⟩ : Addr).add 8) = some (.int .i64 x7) /\ (
 iteB (decide (x7 > (4 : Int))) (
 R (.bool false) H1) (
 ∃ x8 : Int, rd H1 ((⟨H.size, 0, none⟩ : Addr).add 7) = some (.int .i64 x8) /\ (
 iteB (decide (x8 < (0 : Int))) (
 R (.bool false) H1) (
 ∃ x9 : Int, rd H1 ((⟨H.size, 0, none⟩ : Addr).add 7) = some (.int .i64 x9) /\ (
 iteB (decide (x9 > (32 : Int))) (
 R (.bool false) H1) (
 ∃ J_ : Heap -> Prop, (
 ∃ x10 : Int, rd H1 ((⟨H.size, 0, none⟩ : Addr).add 9) = some (.int .i64 x10) /\ (
 iteB (decide (x10 < (0 : Int))) (
 R (.bool false) H1) (
 ∃ x11 : Int, rd H1 ((⟨H.size, 0, none⟩ : Addr).add 9) = some (.int .i64 x11) /\ (
 iteB (decide (x11 > (32 : Int))) (
 R (.bool false) H1) (
 ∃ x12 : Int, rd H1 ((⟨H.size, 0, none⟩ : Addr).add 9) = some (.int .i64 x12) /\ (
 ∃ x13 : Int, rd H1 ((⟨H.size, 0, none⟩ : Addr).add 9) = some (.int .i64 x13) /\ (
 iteB ((bitsAnd .i64 x12 (IntKind.i64.wrap (x13 - (1 : Int)))) != (0 : Int)) (
 R (.bool false) H1) (
 ∃ x14 : Int, rd H1 ((⟨H.size, 0, none⟩ : Addr).add 7) = some (.int .i64 x14) /\ (
 iteB (decide (x14 > (0 : Int))) (
 ∃ x15 : Bool, rd H1 ((⟨H.size, 0, none⟩ : Addr).add 4) = some (.bool x15) /\ (
 iteB (!x15) (
 R (.bool false) H1) (
 ∃ x16 : Bool, rd H1 ((⟨H.size, 0, none⟩ : Addr).add 6) = some (.bool x16) /\ (
 iteB (!x16) (
 R (.bool false) H1) (
 ∃ x17 : Bool, rd H1 ((⟨H.size, 0, none⟩ : Addr).add 4) = some (.bool x17) /\ (
 iteB (!x17) (
 ∃ x18 : Bool, rd H1 ((⟨H.size, 0, none⟩ : Addr).add 5) = some (.bool x18) /\ (
 iteB x18 (
 R (.bool false) H1) (
 ∃ x19 : Bool, rd H1 ((⟨H.size, 0, none⟩ : Addr).add 6) = some (.bool x19) /\ (
 iteB x19 (
 R (.bool false) H1) (
 J_ H1))))) (
 J_ H1))))))) (
 ∃ x20 : Bool, rd H1 ((⟨H.size, 0, none⟩ : Addr).add 4) = some (.bool x20) /\ (
 iteB (!x20) (
 ∃ x21 : Bool, rd H1 ((⟨H.size, 0, none⟩ : Addr).add 5) = some (.bool x21) /\ (
 iteB x21 (
 R (.bool false) H1) (
 ∃ x22 : Bool, rd H1 ((⟨H.size, 0, none⟩ : Addr).add 6) = some (.bool x22) /\ (
 iteB x22 (
 R (.bool false) H1) (
 J_ H1))))) (
 J_ H1)))))))))))) /\ (∀ H2 : Heap, J_ H2 -> F_86_k3 R H H2))))))))))))))))))))))
theorem F_86_ok {R : VP} (f_0 f_1 f_2 f_3 : Int) (f_4 f_5 f_6 : Bool) (f_7 f_8 f_9 : Int) (f_10 : Sl) {H : Heap} (h : F_86 R f_0 f_1 f_2 f_3 f_4 f_5 f_6 f_7 f_8 f_9 f_10 H) : CallsH Tryz.prog n_86 #[.agg #[vI f_0, vI f_1, vI f_2, vI f_3, .bool f_4, .bool f_5, .bool f_6, vI f_7, vI f_8, vI f_9, vS f_10]] H R := wpF_ok Tryz.func86 (show wpF Tryz.prog Tryz.f86 [(3, vI 0), (143, .bool false)] [(5, [], [1]), (24, [143], [1, 3, 4])] [(8, [3], [1])] [9] _ H R = F_86 R f_0 f_1 f_2 f_3 f_4 f_5 f_6 f_7 f_8 f_9 f_10 H by kernel_rfl) h
def F_87 (R : VP) (f_0 f_1 f_2 f_3 : Int) (f_4 f_5 f_6 : Bool) (f_7 f_8 f_9 : Int) (f_10 : Sl) (i : Int) (H : Heap) : Prop :=
 letH (H.push (.cells #[vI f_0, vI f_1, vI f_2, vI f_3, .bool f_4, .bool f_5, .bool f_6, vI f_7, vI f_8, vI f_9, vS f_10] t_58 (0, 0))) (fun H1 =>
 letH (H1.push (.cells #[vO, vO] t_101 (0, 0))) (fun H2 =>
 iteB (decide (i < (0 : Int))) (
 okRow H2 (aZ H1) 2 /\ (
 letH (wrs H2 (aZ H1) [vO, vO]) (fun H3 =>
 ∃ r, lI H3 (aZ H1) r /\ ∃ r1, lI H3 (aP H1 1) r1 /\ (
 R (.agg #[vI r, vI r1]) H3)))) (
 ∃ x, lS H2 (aP H 10) x /\ (
 iteB (decide (i >= (x.n : Int))) (
 okRow H2 (aZ H1) 2 /\ (
 letH (wrs H2 (aZ H1) [vO, vO]) (fun H4 =>
 ∃ r2, lI H4 (aZ H1) r2 /\ ∃ r3, lI H4 (aP H1 1) r3 /\ (
 R (.agg #[vI r2, vI r3]) H4)))) (
 ∃ x1, lS H2 (aP H 10) x1 /\ (
 (xA i x1 (fun a =>
 ∃ x2, lI H2 (a.add (i.toNat * 2)) x2 /\ ∃ x3, lI H2 ((a.add (i.toNat * 2)).add 1) x3 /\ (
 okRow H2 (aZ H1) 2 /\ (
 letH (wrs H2 (aZ H1) [vI x2, vI x3]) (fun H5 =>
 ∃ r4, lI H5 (aZ H1) r4 /\ ∃ r5, lI H5 (aP H1 1) r5 /\ (
 R (.agg #[vI r4, vI r5]) H5))))))))))))
theorem F_87_ok {R : VP} (f_0 f_1 f_2 f_3 : Int) (f_4 f_5 f_6 : Bool) (f_7 f_8 f_9 : Int) (f_10 : Sl) (i : Int) {H : Heap} (h : F_87 R f_0 f_1 f_2 f_3 f_4 f_5 f_6 f_7 f_8 f_9 f_10 i H) : CallsH Tryz.prog n_87 #[.agg #[vI f_0, vI f_1, vI f_2, vI f_3, .bool f_4, .bool f_5, .bool f_6, vI f_7, vI f_8, vI f_9, vS f_10], vI i] H R := wpF_ok Tryz.func87 (show wpF Tryz.prog Tryz.f87 [] [] [] [9] _ H R = F_87 R f_0 f_1 f_2 f_3 f_4 f_5 f_6 f_7 f_8 f_9 f_10 i H by kernel_rfl) h
def F_88_r1 (R : VP) (l : Sl) (I_ : Int -> HP) (M_ : Int -> HN) (i2 : Int) (H1 : Heap) : Prop :=
 iteB (decide (i2 >= (0 : Int))) (
 (xA i2 l (fun a1 =>
 ∃ x, lB H1 ((a1.add (i2.toNat * 11)).add 5) x /\ (
 iteB (!x) (
 R (.bool false) H1) (
 (xA i2 l (fun a2 =>
 ∃ i3, lI H1 (a2.add (i2.toNat * 11)) i3 /\ (
 I_ i3 H1 /\ M_ i3 H1 < M_ i2 H1)))))))) (
 R (.bool true) H1)
def F_88 (R : VP) (l : Sl) (i : Int) (H : Heap) : Prop :=
 (xA i l (fun a =>
 ∃ i1, lI H (a.add (i.toNat * 11)) i1 /\ (
 ∃ I_ : Int -> HP, ∃ M_ : Int -> HN, I_ i1 H /\ (∀ i2 : Int, ∀ H1 : Heap, I_ i2 H1 -> F_88_r1 R l I_ M_ i2 H1))))
theorem F_88_ok {R : VP} (l : Sl) (i : Int) {H : Heap} (h : F_88 R l i H) : CallsH Tryz.prog n_88 #[vS l, vI i] H R := wpF_ok Tryz.func88 (show wpF Tryz.prog Tryz.f88 [(1, vI 0)] [] [(2, [1], [0])] [9] _ H R = F_88 R l i H by kernel_rfl) h
def F_89_k1 (hotplug : Bool) (w : Int) (J_2 : Int -> HP) (x3 : Bool) (H4 : Heap) : Prop :=
 iteB x3 (
 letV (if (12 : Int) > w then (12 : Int) else w) (fun w1 =>
 J_2 w1 H4)) (
 iteB hotplug (
 letV (if (22 : Int) > w then (22 : Int) else w) (fun w2 =>
 J_2 w2 H4)) (
 J_2 w H4))
def F_89_r2 (R : VP) (sum : Int) (I_1 : Int -> HP) (M_1 : Int -> HN) (w4 : Int) (H6 : Heap) : Prop :=
 0 <= (u64.wrap w4) /\ (
 iteB (decide ((u64.wrap ((1 : Int) * 2 ^ (min (u64.wrap w4).toNat IntKind.u64.bits))) < sum)) (
 letV (i64.wrap (w4 + (1 : Int))) (fun w5 =>
 I_1 w5 H6 /\ M_1 w5 H6 < M_1 w4 H6)) (
 R (.tuple #[vI w4, .bool true]) H6))
def F_89_k3 (R : VP) (sum w3 : Int) (H5 : Heap) : Prop :=
 ∃ I_1 : Int -> HP, ∃ M_1 : Int -> HN, I_1 w3 H5 /\ (∀ w4 : Int, ∀ H6 : Heap, I_1 w4 H6 -> F_89_r2 R sum I_1 M_1 w4 H6)
def F_89_k4 (R : VP) (classv : Int) (hotplug : Bool) (sum w : Int) (H3 : Heap) : Prop :=
 ∃ J_2 : Int -> HP, (
 ∃ J_3 : Bool -> HP, (
 iteB hotplug (
 J_3 (classv == (0 : Int)) H3) (
 J_3 false H3)) /\ (∀ x3 : Bool, ∀ H4 : Heap, J_3 x3 H4 -> F_89_k1 hotplug w J_2 x3 H4)) /\ (∀ w3 : Int, ∀ H5 : Heap, J_2 w3 H5 -> F_89_k3 R sum w3 H5)
def F_89_r5 (R : VP) (sizes : Sl) (classv : Int) (hotplug : Bool) (I_ : Int -> Int -> HP) (M_ : Int -> Int -> HN) (sum i : Int) (H2 : Heap) : Prop :=
 iteB (decide (i < (sizes.n : Int))) (
 (xA i sizes (fun a =>
 ∃ x, lI H2 (a.add (i.toNat * 1)) x /\ (
 iteB (decide (x < (0 : Int))) (
 R (.tuple #[vO, .bool false]) H2) (
 (xA i sizes (fun a1 =>
 ∃ x1, lI H2 (a1.add (i.toNat * 1)) x1 /\ (
 iteB (decide (x1 > (44 : Int))) (
 R (.tuple #[vO, .bool false]) H2) (
 (xA i sizes (fun a2 =>
 ∃ x2, lI H2 (a2.add (i.toNat * 1)) x2 /\ (
 0 <= (u64.wrap x2) /\ (
 letV (u64.wrap (sum + (u64.wrap ((1 : Int) * 2 ^ (min (u64.wrap x2).toNat IntKind.u64.bits))))) (fun sum1 =>
 letV (i64.wrap (i + (1 : Int))) (fun i1 =>
 I_ sum1 i1 H2 /\ M_ sum1 i1 H2 < M_ sum i H2))))))))))))))) (
 ∃ J_1 : Int -> HP, (
 iteB (classv == (0 : Int)) (
 J_1 (12 : Int) H2) (
 J_1 (20 : Int) H2)) /\ (∀ w : Int, ∀ H3 : Heap, J_1 w H3 -> F_89_k4 R classv hotplug sum w H3))
def F_89_k6 (R : VP) (sizes : Sl) (classv : Int) (hotplug : Bool) (H1 : Heap) : Prop :=
 ∃ I_ : Int -> Int -> HP, ∃ M_ : Int -> Int -> HN, I_ (0 : Int) (0 : Int) H1 /\ (∀ sum i : Int, ∀ H2 : Heap, I_ sum i H2 -> F_89_r5 R sizes classv hotplug I_ M_ sum i H2)
def F_89 (R : VP) (sizes : Sl) (classv : Int) (hotplug : Bool) (H : Heap) : Prop :=
 ∃ J_ : HP, (
 iteB (decide (classv < (0 : Int))) (
 R (.tuple #[vO, .bool false]) H) (
 iteB (decide (classv >= (3 : Int))) (
 R (.tuple #[vO, .bool false]) H) (
 iteB (decide ((sizes.n : Int) > (1024 : Int))) (
 R (.tuple #[vO, .bool false]) H) (
 iteB ((sizes.n : Int) == (0 : Int)) (
 iteB (!hotplug) (
 R (.tuple #[vO, .bool false]) H) (
 J_ H)) (
 J_ H))))) /\ (∀ H1 : Heap, J_ H1 -> F_89_k6 R sizes classv hotplug H1)
theorem F_89_ok {R : VP} (sizes : Sl) (classv : Int) (hotplug : Bool) {H : Heap} (h : F_89 R sizes classv hotplug H) : CallsH Tryz.prog n_89 #[vS sizes, vI classv, .bool hotplug] H R := wpF_ok Tryz.func89 (show wpF Tryz.prog Tryz.f89 [(8, vU 0), (9, vI 0), (10, vI 0), (63, .bool false)] [(3, [], [0, 1, 2]), (13, [10], [1, 2, 8]), (17, [10], [8]), (14, [63], [2, 8, 10])] [(5, [8, 9], [0, 1, 2]), (17, [10], [8])] [9] _ H R = F_89 R sizes classv hotplug H by kernel_rfl) h
def F_90_r1 (R : VP) (l : Sl) (k size : Int) (I_ : Int -> Int -> HP) (M_ : Int -> Int -> HN) (count x : Int) (H1 : Heap) : Prop :=
 iteB (decide (x < (l.n : Int))) (
 (xA x l (fun a =>
 ∃ x1, lU H1 (a.add (x.toNat * 2)) x1 /\ ∃ x2, lU H1 ((a.add (x.toNat * 2)).add 1) x2 /\ (
 letH (H1.push (.cells #[vU (0 : Int), vU (0 : Int)] t_95 (0, 0))) (fun H2 =>
 okRow H2 (aZ H1) 2 /\ (
 letH (wrs H2 (aZ H1) [vU x1, vU x2]) (fun H3 =>
 ∃ x3, lU H3 (aZ H1) x3 /\ (
 0 <= k /\ (
 letV ((u64.wrap ((u64.wrap (x3 + size)) - (1 : Int))).fdiv (2 ^ (min k.toNat IntKind.u64.bits))) (fun first =>
 ∃ x4, lU H3 (aZ H1) x4 /\ (
 ∃ x5, lU H3 (aP H1 1) x5 /\ (
 0 <= k /\ (
 letV ((u64.wrap (x4 + x5)).fdiv (2 ^ (min k.toNat IntKind.u64.bits))) (fun last =>
 iteB (decide (last > first)) (
 letV (u64.wrap (count + (u64.wrap (last - first)))) (fun count1 =>
 I_ count1 (i64.wrap (x + (1 : Int))) H3 /\ M_ count1 (i64.wrap (x + (1 : Int))) H3 < M_ count x H1)) (
 I_ count (i64.wrap (x + (1 : Int))) H3 /\ M_ count (i64.wrap (x + (1 : Int))) H3 < M_ count x H1))))))))))))))) (
 R (vU count) H1)
def F_90 (R : VP) (l : Sl) (k : Int) (H : Heap) : Prop :=
 0 <= k /\ (
 letV (u64.wrap ((1 : Int) * 2 ^ (min k.toNat IntKind.u64.bits))) (fun size =>
 ∃ I_ : Int -> Int -> HP, ∃ M_ : Int -> Int -> HN, I_ (0 : Int) (0 : Int) H /\ (∀ count x : Int, ∀ H1 : Heap, I_ count x H1 -> F_90_r1 R l k size I_ M_ count x H1)))
theorem F_90_ok {R : VP} (l : Sl) (k : Int) {H : Heap} (h : F_90 R l k H) : CallsH Tryz.prog n_90 #[vS l, vI k] H R := wpF_ok Tryz.func90 (show wpF Tryz.prog Tryz.f90 [(5, vU 0), (15, vI 0)] [] [(4, [5, 15], [1, 6, 13, 14])] [9] _ H R = F_90 R l k H by kernel_rfl) h
def F_91_k1 (I_ : Sl -> Int -> HP) (M_ : Sl -> Int -> HN) (result : Sl) (x : Int) (H3 : Heap) (k : Int) (x6 : Bool) (H6 : Heap) : Prop :=
 iteB x6 (
 (xA k result (fun a3 =>
 ∃ x7, lU H6 ((a3.add (k.toNat * 2)).add 1) x7 /\ (
 ∃ x8, lU H6 (aZ H3) x8 /\ (
 ∃ x9, lU H6 (aP H3 1) x9 /\ (
 (xA k result (fun a4 =>
 ∃ x10, lU H6 (a4.add (k.toNat * 2)) x10 /\ (
 (xA k result (fun a5 =>
 okRow H6 ((a5.add (k.toNat * 2)).add 1) 1 /\ (
 letH (wrs H6 ((a5.add (k.toNat * 2)).add 1) [vU (if (u64.wrap ((u64.wrap (x8 + x9)) - x10)) > x7 then (u64.wrap ((u64.wrap (x8 + x9)) - x10)) else x7)]) (fun H7 =>
 I_ result (i64.wrap (x + (1 : Int))) H7 /\ M_ result (i64.wrap (x + (1 : Int))) H7 < M_ result x H3))))))))))))) (
 ∃ x11, lU H6 (aZ H3) x11 /\ ∃ x12, lU H6 (aP H3 1) x12 /\ (
 letH (H6.push (.cells #[vU x11, vU x12] t_95 (0, 0))) (fun H8 =>
 runH Tryz.prog (Builtin.append_ #[t_23, t_23] t_23 #[vS result, .slice (some (aZ H6)) 1 1]) H8 (fun v2 H9 =>
 ∃ result1 : Sl, v2 = vS result1 /\ (
 I_ result1 (i64.wrap (x + (1 : Int))) H9 /\ M_ result1 (i64.wrap (x + (1 : Int))) H9 < M_ result x H3)))))
def F_91_r2 (R : VP) (sorted : Sl) (I_ : Sl -> Int -> HP) (M_ : Sl -> Int -> HN) (result : Sl) (x : Int) (H3 : Heap) : Prop :=
 iteB (decide (x < (sorted.n : Int))) (
 (xA x sorted (fun a =>
 ∃ x1, lU H3 (a.add (x.toNat * 2)) x1 /\ ∃ x2, lU H3 ((a.add (x.toNat * 2)).add 1) x2 /\ (
 letH (H3.push (.cells #[vU (0 : Int), vU (0 : Int)] t_95 (0, 0))) (fun H4 =>
 okRow H4 (aZ H3) 2 /\ (
 letH (wrs H4 (aZ H3) [vU x1, vU x2]) (fun H5 =>
 letV (i64.wrap ((result.n : Int) - (1 : Int))) (fun k =>
 ∃ J_ : Bool -> HP, (
 iteB (decide (k >= (0 : Int))) (
 ∃ x3, lU H5 (aZ H3) x3 /\ (
 (xA k result (fun a1 =>
 ∃ x4, lU H5 (a1.add (k.toNat * 2)) x4 /\ (
 (xA k result (fun a2 =>
 ∃ x5, lU H5 ((a2.add (k.toNat * 2)).add 1) x5 /\ (
 J_ (decide (x3 <= (u64.wrap (x4 + x5)))) H5)))))))) (
 J_ false H5)) /\ (∀ x6 : Bool, ∀ H6 : Heap, J_ x6 H6 -> F_91_k1 I_ M_ result x H3 k x6 H6))))))))) (
 R (vS result) H3)
def F_91 (R : VP) (l : Sl) (H : Heap) : Prop :=
 CallsH Tryz.prog n_108 #[vS l] H (fun v H1 =>
 ∃ sorted : Sl, v = vS sorted /\ (
 CallsH Tryz.prog n_109 #[vS sorted, .func (.func 110) #[] #[]] H1 (fun v1 H2 =>
 v1 = .tuple #[] /\ (
 ∃ I_ : Sl -> Int -> HP, ∃ M_ : Sl -> Int -> HN, I_ (Sl.mk none 0 0) (0 : Int) H2 /\ (∀ result : Sl, ∀ x : Int, ∀ H3 : Heap, I_ result x H3 -> F_91_r2 R sorted I_ M_ result x H3)))))
theorem F_91_ok {R : VP} (l : Sl) {H : Heap} (h : F_91 R l H) : CallsH Tryz.prog n_91 #[vS l] H R := wpF_ok Tryz.func91 (show wpF Tryz.prog Tryz.f91 [(4, vN), (14, vI 0), (38, .bool false)] [(9, [38], [4, 6, 7, 12, 13, 14])] [(5, [4, 14], [12, 13])] [9] _ H R = F_91 R l H by kernel_rfl) h
def F_92_r1 (R : VP) (l : Sl) (I_ : Int -> HP) (M_ : Int -> HN) (i : Int) (H1 : Heap) : Prop :=
 iteB (decide (i < (l.n : Int))) (
 (xA i l (fun a =>
 ∃ x, lU H1 ((a.add (i.toNat * 2)).add 1) x /\ (
 iteB (decide (x < (1 : Int))) (
 R (.bool false) H1) (
 (xA i l (fun a1 =>
 ∃ x1, lU H1 ((a1.add (i.toNat * 2)).add 1) x1 /\ (
 iteB (decide (x1 > (4503599627370496 : Int))) (
 R (.bool false) H1) (
 (xA i l (fun a2 =>
 ∃ x2, lU H1 (a2.add (i.toNat * 2)) x2 /\ (
 (xA i l (fun a3 =>
 ∃ x3, lU H1 ((a3.add (i.toNat * 2)).add 1) x3 /\ (
 iteB (decide (x2 > (u64.wrap ((4503599627370496 : Int) - x3)))) (
 R (.bool false) H1) (
 letV (i64.wrap (i + (1 : Int))) (fun i1 =>
 I_ i1 H1 /\ M_ i1 H1 < M_ i H1))))))))))))))))) (
 R (.bool true) H1)
def F_92 (R : VP) (l : Sl) (H : Heap) : Prop :=
 iteB (decide ((l.n : Int) > (1024 : Int))) (
 R (.bool false) H) (
 ∃ I_ : Int -> HP, ∃ M_ : Int -> HN, I_ (0 : Int) H /\ (∀ i : Int, ∀ H1 : Heap, I_ i H1 -> F_92_r1 R l I_ M_ i H1))
theorem F_92_ok {R : VP} (l : Sl) {H : Heap} (h : F_92 R l H) : CallsH Tryz.prog n_92 #[vS l] H R := wpF_ok Tryz.func92 (show wpF Tryz.prog Tryz.f92 [(3, vI 0)] [] [(4, [3], [0])] [9] _ H R = F_92 R l H by kernel_rfl) h
def F_93_k1 (I_ : Sl -> Sl -> HP) (M_ : Sl -> Sl -> HN) (out left1 : Sl) (H2 H3 : Heap) (left2 : Sl) (n : Int) (x8 : Bool) (H8 : Heap) : Prop :=
 iteB x8 (
 (xA n out (fun a5 =>
 ∃ x9, lU H8 ((a5.add (n.toNat * 2)).add 1) x9 /\ (
 ∃ x10, lU H8 (aZ H3) x10 /\ (
 ∃ x11, lU H8 (aP H3 1) x11 /\ (
 (xA n out (fun a6 =>
 ∃ x12, lU H8 (a6.add (n.toNat * 2)) x12 /\ (
 (xA n out (fun a7 =>
 okRow H8 ((a7.add (n.toNat * 2)).add 1) 1 /\ (
 letH (wrs H8 ((a7.add (n.toNat * 2)).add 1) [vU (if (u64.wrap ((u64.wrap (x10 + x11)) - x12)) > x9 then (u64.wrap ((u64.wrap (x10 + x11)) - x12)) else x9)]) (fun H9 =>
 I_ out left2 H9 /\ M_ out left2 H9 < M_ out left1 H2))))))))))))) (
 ∃ x13, lU H8 (aZ H3) x13 /\ ∃ x14, lU H8 (aP H3 1) x14 /\ (
 letH (H8.push (.cells #[vU x13, vU x14] t_95 (0, 0))) (fun H10 =>
 runH Tryz.prog (Builtin.append_ #[t_23, t_23] t_23 #[vS out, .slice (some (aZ H8)) 1 1]) H10 (fun v3 H11 =>
 ∃ out1 : Sl, v3 = vS out1 /\ (
 I_ out1 left2 H11 /\ M_ out1 left2 H11 < M_ out left1 H2)))))
def F_93_r2 (I_ : Sl -> Sl -> HP) (M_ : Sl -> Sl -> HN) (out left1 : Sl) (H2 : Heap) (I_1 : Int -> Int -> HP) (M_1 : Int -> Int -> HN) (k i : Int) (H3 : Heap) : Prop :=
 iteB (decide (i < (left1.n : Int))) (
 (xA i left1 (fun a =>
 ∃ x, lU H3 (a.add (i.toNat * 2)) x /\ (
 (xA k left1 (fun a1 =>
 ∃ x1, lU H3 (a1.add (k.toNat * 2)) x1 /\ (
 iteB (decide (x < x1)) (
 letV (i64.wrap (i + (1 : Int))) (fun i1 =>
 I_1 i i1 H3 /\ M_1 i i1 H3 < M_1 k i H3)) (
 letV (i64.wrap (i + (1 : Int))) (fun i2 =>
 I_1 k i2 H3 /\ M_1 k i2 H3 < M_1 k i H3))))))))) (
 (xA k left1 (fun a2 =>
 ∃ x2, lU H3 (a2.add (k.toNat * 2)) x2 /\ ∃ x3, lU H3 ((a2.add (k.toNat * 2)).add 1) x3 /\ (
 letH (H3.push (.cells #[vU (0 : Int), vU (0 : Int)] t_95 (0, 0))) (fun H4 =>
 okRow H4 (aZ H3) 2 /\ (
 letH (wrs H4 (aZ H3) [vU x2, vU x3]) (fun H5 =>
 0 <= k /\ k <= (left1.c : Int) /\ (
 0 <= (i64.wrap (k + (1 : Int))) /\ (i64.wrap (k + (1 : Int))) <= (left1.n : Int) /\ (
 runH Tryz.prog (Builtin.append_ #[t_23, t_23] t_23 #[vN, .slice (slP left1.p left1.c 0 2) (k.toNat - 0) (left1.c - 0)]) H5 (fun v1 H6 =>
 ∃ x4 : Sl, v1 = vS x4 /\ (
 runH Tryz.prog (Builtin.append_ #[t_23, t_23] t_23 #[vS x4, .slice (slP left1.p left1.c ((i64.wrap (k + (1 : Int))).toNat) 2) (left1.n - (i64.wrap (k + (1 : Int))).toNat) (left1.c - (i64.wrap (k + (1 : Int))).toNat)]) H6 (fun v2 H7 =>
 ∃ left2 : Sl, v2 = vS left2 /\ (
 letV (i64.wrap ((out.n : Int) - (1 : Int))) (fun n =>
 ∃ J_ : Bool -> HP, (
 iteB (decide (n >= (0 : Int))) (
 ∃ x5, lU H7 (aZ H3) x5 /\ (
 (xA n out (fun a3 =>
 ∃ x6, lU H7 (a3.add (n.toNat * 2)) x6 /\ (
 (xA n out (fun a4 =>
 ∃ x7, lU H7 ((a4.add (n.toNat * 2)).add 1) x7 /\ (
 J_ (decide (x5 <= (u64.wrap (x6 + x7)))) H7)))))))) (
 J_ false H7)) /\ (∀ x8 : Bool, ∀ H8 : Heap, J_ x8 H8 -> F_93_k1 I_ M_ out left1 H2 H3 left2 n x8 H8)))))))))))))))
def F_93_r3 (R : VP) (I_ : Sl -> Sl -> HP) (M_ : Sl -> Sl -> HN) (out left1 : Sl) (H2 : Heap) : Prop :=
 iteB (decide ((left1.n : Int) > (0 : Int))) (
 ∃ I_1 : Int -> Int -> HP, ∃ M_1 : Int -> Int -> HN, I_1 (0 : Int) (1 : Int) H2 /\ (∀ k i : Int, ∀ H3 : Heap, I_1 k i H3 -> F_93_r2 I_ M_ out left1 H2 I_1 M_1 k i H3)) (
 R (vS out) H2)
def F_93 (R : VP) (l : Sl) (H : Heap) : Prop :=
 runH Tryz.prog (Builtin.append_ #[t_23, t_23] t_23 #[vN, vS l]) H (fun v H1 =>
 ∃ left : Sl, v = vS left /\ (
 ∃ I_ : Sl -> Sl -> HP, ∃ M_ : Sl -> Sl -> HN, I_ (Sl.mk none 0 0) left H1 /\ (∀ out left1 : Sl, ∀ H2 : Heap, I_ out left1 H2 -> F_93_r3 R I_ M_ out left1 H2)))
theorem F_93_ok {R : VP} (l : Sl) {H : Heap} (h : F_93 R l H) : CallsH Tryz.prog n_93 #[vS l] H R := wpF_ok Tryz.func93 (show wpF Tryz.prog Tryz.f93 [(3, vN), (4, vN), (5, vI 0), (6, vI 0), (65, .bool false)] [(14, [65], [3, 4, 7, 8])] [(3, [3, 4], []), (6, [5, 6], [3, 4])] [9] _ H R = F_93 R l H by kernel_rfl) h
def F_94_k1 (I_ : Sl -> Int -> HP) (M_ : Sl -> Int -> HN) (out : Sl) (i : Int) (H2 : Heap) (endv stop : Int) (out3 : Sl) (H10 : Heap) : Prop :=
 iteB (decide (stop < endv)) (
 letH (H10.push (.cells #[vU stop, vU (u64.wrap (endv - stop))] t_95 (0, 0))) (fun H11 =>
 runH Tryz.prog (Builtin.append_ #[t_23, t_23] t_23 #[vS out3, .slice (some (aZ H10)) 1 1]) H11 (fun v2 H12 =>
 ∃ out4 : Sl, v2 = vS out4 /\ (
 letV (i64.wrap (i + (1 : Int))) (fun i2 =>
 I_ out4 i2 H12 /\ M_ out4 i2 H12 < M_ out i H2))))) (
 letV (i64.wrap (i + (1 : Int))) (fun i3 =>
 I_ out3 i3 H10 /\ M_ out3 i3 H10 < M_ out i H2))
def F_94_k2 (H : Heap) (I_ : Sl -> Int -> HP) (M_ : Sl -> Int -> HN) (out : Sl) (i : Int) (H2 : Heap) (endv stop : Int) (x8 : Bool) (H5 : Heap) : Prop :=
 iteB x8 (
 ∃ x9, lU H5 (aZ H2) x9 /\ ∃ x10, lU H5 (aP H2 1) x10 /\ (
 letH (H5.push (.cells #[vU x9, vU x10] t_95 (0, 0))) (fun H6 =>
 runH Tryz.prog (Builtin.append_ #[t_23, t_23] t_23 #[vS out, .slice (some (aZ H5)) 1 1]) H6 (fun v H7 =>
 ∃ out1 : Sl, v = vS out1 /\ (
 letV (i64.wrap (i + (1 : Int))) (fun i1 =>
 I_ out1 i1 H7 /\ M_ out1 i1 H7 < M_ out i H2)))))) (
 ∃ J_1 : Sl -> HP, (
 ∃ x11, lU H5 (aZ H2) x11 /\ (
 ∃ x12, lU H5 (aZ H) x12 /\ (
 iteB (decide (x11 < x12)) (
 ∃ x13, lU H5 (aZ H2) x13 /\ (
 ∃ x14, lU H5 (aZ H) x14 /\ (
 ∃ x15, lU H5 (aZ H2) x15 /\ (
 letH (H5.push (.cells #[vU x13, vU (u64.wrap (x14 - x15))] t_95 (0, 0))) (fun H8 =>
 runH Tryz.prog (Builtin.append_ #[t_23, t_23] t_23 #[vS out, .slice (some (aZ H5)) 1 1]) H8 (fun v1 H9 =>
 ∃ out2 : Sl, v1 = vS out2 /\ (
 J_1 out2 H9))))))) (
 J_1 out H5)))) /\ (∀ out3 : Sl, ∀ H10 : Heap, J_1 out3 H10 -> F_94_k1 I_ M_ out i H2 endv stop out3 H10))
def F_94_r3 (R : VP) (H : Heap) (free : Sl) (I_ : Sl -> Int -> HP) (M_ : Sl -> Int -> HN) (out : Sl) (i : Int) (H2 : Heap) : Prop :=
 iteB (decide (i < (free.n : Int))) (
 (xA i free (fun a =>
 ∃ x, lU H2 (a.add (i.toNat * 2)) x /\ ∃ x1, lU H2 ((a.add (i.toNat * 2)).add 1) x1 /\ (
 letH (H2.push (.cells #[vU (0 : Int), vU (0 : Int)] t_95 (0, 0))) (fun H3 =>
 okRow H3 (aZ H2) 2 /\ (
 letH (wrs H3 (aZ H2) [vU x, vU x1]) (fun H4 =>
 ∃ x2, lU H4 (aZ H2) x2 /\ (
 ∃ x3, lU H4 (aP H2 1) x3 /\ (
 ∃ x4, lU H4 (aZ H) x4 /\ (
 ∃ x5, lU H4 (aP H 1) x5 /\ (
 letV (u64.wrap (x2 + x3)) (fun endv =>
 letV (u64.wrap (x4 + x5)) (fun stop =>
 ∃ J_ : Bool -> HP, (
 ∃ x6, lU H4 (aZ H) x6 /\ (
 iteB (decide (x6 >= endv)) (
 J_ true H4) (
 ∃ x7, lU H4 (aZ H2) x7 /\ (
 J_ (decide (stop <= x7)) H4)))) /\ (∀ x8 : Bool, ∀ H5 : Heap, J_ x8 H5 -> F_94_k2 H I_ M_ out i H2 endv stop x8 H5)))))))))))))) (
 R (vS out) H2)
def F_94 (R : VP) (free : Sl) (x_0 x_1 : Int) (H : Heap) : Prop :=
 letH (H.push (.cells #[vU x_0, vU x_1] t_95 (0, 0))) (fun H1 =>
 ∃ I_ : Sl -> Int -> HP, ∃ M_ : Sl -> Int -> HN, I_ (Sl.mk none 0 0) (0 : Int) H1 /\ (∀ out : Sl, ∀ i : Int, ∀ H2 : Heap, I_ out i H2 -> F_94_r3 R H free I_ M_ out i H2))
theorem F_94_ok {R : VP} (free : Sl) (x_0 x_1 : Int) {H : Heap} (h : F_94 R free x_0 x_1 H) : CallsH Tryz.prog n_94 #[vS free, .agg #[vU x_0, vU x_1]] H R := wpF_ok Tryz.func94 (show wpF Tryz.prog Tryz.f94 [(5, vN), (6, vI 0), (39, .bool false)] [(8, [39], [0, 3, 5, 6, 7, 8, 9]), (11, [5], [0, 3, 6, 8, 9])] [(3, [5, 6], [0, 3])] [9] _ H R = F_94 R free x_0 x_1 H by kernel_rfl) h
def F_95_r1 (R : VP) (l : Sl) (fromv to : Int) (I_ : Int -> HP) (M_ : Int -> HN) (i : Int) (H2 : Heap) : Prop :=
 iteB (decide (i < (l.n : Int))) (
 (xA i l (fun a =>
 ∃ x1, lU H2 (a.add (i.toNat * 2)) x1 /\ (
 iteB (decide (x1 < fromv)) (
 R (.bool false) H2) (
 (xA i l (fun a1 =>
 ∃ x2, lU H2 (a1.add (i.toNat * 2)) x2 /\ (
 (xA i l (fun a2 =>
 ∃ x3, lU H2 ((a2.add (i.toNat * 2)).add 1) x3 /\ (
 iteB (decide ((u64.wrap (x2 + x3)) > to)) (
 R (.bool false) H2) (
 letV (i64.wrap (i + (1 : Int))) (fun i1 =>
 I_ i1 H2 /\ M_ i1 H2 < M_ i H2))))))))))))) (
 R (.bool true) H2)
def F_95 (R : VP) (l : Sl) (fromv to : Int) (H : Heap) : Prop :=
 iteB (decide ((l.n : Int) > (16 : Int))) (
 R (.bool false) H) (
 CallsH Tryz.prog n_92 #[vS l] H (fun v H1 =>
 ∃ x : Bool, v = .bool x /\ (
 iteB (!x) (
 R (.bool false) H1) (
 ∃ I_ : Int -> HP, ∃ M_ : Int -> HN, I_ (0 : Int) H1 /\ (∀ i : Int, ∀ H2 : Heap, I_ i H2 -> F_95_r1 R l fromv to I_ M_ i H2)))))
theorem F_95_ok {R : VP} (l : Sl) (fromv to : Int) {H : Heap} (h : F_95 R l fromv to H) : CallsH Tryz.prog n_95 #[vS l, vU fromv, vU to] H R := wpF_ok Tryz.func95 (show wpF Tryz.prog Tryz.f95 [(7, vI 0)] [] [(4, [7], [0, 1, 2])] [9] _ H R = F_95 R l fromv to H by kernel_rfl) h
def F_96_r1 (sizes : Sl) (H4 : Heap) (k : Int) (left2 : Sl) (i : Int) (J_1 : Bool -> HP) (I_2 : Bool -> Int -> HP) (M_2 : Bool -> Int -> HN) (found : Bool) (j : Int) (H10 : Heap) : Prop :=
 iteB (decide (j < (left2.n : Int))) (
 iteB (!found) (
 (xA j left2 (fun a1 =>
 ∃ x4, lU H10 (a1.add (j.toNat * 2)) x4 /\ (
 CallsH Tryz.prog n_113 #[vU x4, vI k] H10 (fun v3 H11 =>
 ∃ atv : Int, v3 = vU atv /\ (
 0 <= (u64.wrap k) /\ (
 (xA j left2 (fun a2 =>
 ∃ x5, lU H11 (a2.add (j.toNat * 2)) x5 /\ (
 (xA j left2 (fun a3 =>
 ∃ x6, lU H11 ((a3.add (j.toNat * 2)).add 1) x6 /\ (
 iteB (decide ((u64.wrap (atv + (u64.wrap ((1 : Int) * 2 ^ (min (u64.wrap k).toNat IntKind.u64.bits))))) <= (u64.wrap (x5 + x6)))) (
 0 <= i /\ i < (((sizes.n : Int).toNat : Nat) : Int) /\ (okRow H11 ((aZ H4).add (i.toNat * 1)) 1 /\ (
 letH (wrs H11 ((aZ H4).add (i.toNat * 1)) [vU atv]) (fun H12 =>
 letV (i64.wrap (j + (1 : Int))) (fun j1 =>
 I_2 true j1 H12 /\ M_2 true j1 H12 < M_2 found j H10))))) (
 letV (i64.wrap (j + (1 : Int))) (fun j2 =>
 I_2 found j2 H11 /\ M_2 found j2 H11 < M_2 found j H10))))))))))))))) (
 J_1 found H10)) (
 J_1 found H10)
def F_96_k2 (R : VP) (H : Heap) (free sizes : Sl) (H4 : Heap) (k : Int) (I_1 : Sl -> Int -> HP) (M_1 : Sl -> Int -> HN) (left2 : Sl) (i : Int) (H9 : Heap) (found1 : Bool) (H13 : Heap) : Prop :=
 iteB (!found1) (
 CallsH Tryz.prog n_114 #[vS free, vS sizes] H13 (fun v4 H14 =>
 ∃ x7 x8 : Int, ∃ x9 x10 : Int, v4 = .agg #[vI x7, vI x8, vU x9, vU x10] /\ (
 okRow H14 (aZ H) 4 /\ (
 letH (wrs H14 (aZ H) [vI x7, vI x8, vU x9, vU x10]) (fun H15 =>
 ∃ r4, lI H15 (aZ H) r4 /\ ∃ r5, lI H15 (aP H 1) r5 /\ ∃ r6, lU H15 (aP H 2) r6 /\ ∃ r7, lU H15 (aP H 3) r7 /\ (
 R (.tuple #[vN, .agg #[vI r4, vI r5, vU r6, vU r7], vI (19 : Int)]) H15)))))) (
 0 <= i /\ i < (((sizes.n : Int).toNat : Nat) : Int) /\ (∃ x11, lU H13 ((aZ H4).add (i.toNat * 1)) x11 /\ (
 0 <= (u64.wrap k) /\ (
 CallsH Tryz.prog n_94 #[vS left2, .agg #[vU x11, vU (u64.wrap ((1 : Int) * 2 ^ (min (u64.wrap k).toNat IntKind.u64.bits)))]] H13 (fun v5 H16 =>
 ∃ left3 : Sl, v5 = vS left3 /\ (
 letV (i64.wrap (i + (1 : Int))) (fun i2 =>
 I_1 left3 i2 H16 /\ M_1 left3 i2 H16 < M_1 left2 i H9)))))))
def F_96_r3 (R : VP) (H : Heap) (free sizes : Sl) (H4 : Heap) (I_ : Sl -> Int -> HP) (M_ : Sl -> Int -> HN) (left1 : Sl) (k : Int) (H8 : Heap) (I_1 : Sl -> Int -> HP) (M_1 : Sl -> Int -> HN) (left2 : Sl) (i : Int) (H9 : Heap) : Prop :=
 iteB (decide (i < (sizes.n : Int))) (
 (xA i sizes (fun a =>
 ∃ x3, lI H9 (a.add (i.toNat * 1)) x3 /\ (
 iteB (x3 != k) (
 letV (i64.wrap (i + (1 : Int))) (fun i1 =>
 I_1 left2 i1 H9 /\ M_1 left2 i1 H9 < M_1 left2 i H9)) (
 ∃ J_1 : Bool -> HP, (
 ∃ I_2 : Bool -> Int -> HP, ∃ M_2 : Bool -> Int -> HN, I_2 false (0 : Int) H9 /\ (∀ found : Bool, ∀ j : Int, ∀ H10 : Heap, I_2 found j H10 -> F_96_r1 sizes H4 k left2 i J_1 I_2 M_2 found j H10)) /\ (∀ found1 : Bool, ∀ H13 : Heap, J_1 found1 H13 -> F_96_k2 R H free sizes H4 k I_1 M_1 left2 i H9 found1 H13)))))) (
 letV (i64.wrap (k - (1 : Int))) (fun k1 =>
 I_ left2 k1 H9 /\ M_ left2 k1 H9 < M_ left1 k H8))
def F_96_r4 (R : VP) (H : Heap) (free sizes : Sl) (H4 : Heap) (I_ : Sl -> Int -> HP) (M_ : Sl -> Int -> HN) (left1 : Sl) (k : Int) (H8 : Heap) : Prop :=
 iteB (decide (k >= (0 : Int))) (
 ∃ I_1 : Sl -> Int -> HP, ∃ M_1 : Sl -> Int -> HN, I_1 left1 (0 : Int) H8 /\ (∀ left2 : Sl, ∀ i : Int, ∀ H9 : Heap, I_1 left2 i H9 -> F_96_r3 R H free sizes H4 I_ M_ left1 k H8 I_1 M_1 left2 i H9)) (
 okRow H8 (aZ H) 4 /\ (
 letH (wrs H8 (aZ H) [vO, vO, vU (0 : Int), vU (0 : Int)]) (fun H17 =>
 ∃ r8, lI H17 (aZ H) r8 /\ ∃ r9, lI H17 (aP H 1) r9 /\ ∃ r10, lU H17 (aP H 2) r10 /\ ∃ r11, lU H17 (aP H 3) r11 /\ (
 R (.tuple #[.slice (some (aZ H4)) ((sizes.n : Int).toNat) ((sizes.n : Int).toNat), .agg #[vI r8, vI r9, vU r10, vU r11], vO]) H17))))
def F_96_k5 (R : VP) (H : Heap) (free sizes : Sl) (x2 : Bool) (H4 : Heap) : Prop :=
 iteB x2 (
 okRow H4 (aZ H) 4 /\ (
 letH (wrs H4 (aZ H) [vO, vO, vU (0 : Int), vU (0 : Int)]) (fun H5 =>
 ∃ r, lI H5 (aZ H) r /\ ∃ r1, lI H5 (aP H 1) r1 /\ ∃ r2, lU H5 (aP H 2) r2 /\ ∃ r3, lU H5 (aP H 3) r3 /\ (
 R (.tuple #[vN, .agg #[vI r, vI r1, vU r2, vU r3], vI (1 : Int)]) H5)))) (
 0 <= (sizes.n : Int) /\ (sizes.n : Int) <= (sizes.n : Int) /\ (sizes.n : Int) * ((8 : Nat) : Int) <= 281474976710656 /\ (
 letH (H4.push (.cells (zeroRow (vU (0 : Int)) (sizes.n : Int).toNat) t_30 (0, 0))) (fun H6 =>
 CallsH Tryz.prog n_93 #[vS free] H6 (fun v2 H7 =>
 ∃ left : Sl, v2 = vS left /\ (
 ∃ I_ : Sl -> Int -> HP, ∃ M_ : Sl -> Int -> HN, I_ left (44 : Int) H7 /\ (∀ left1 : Sl, ∀ k : Int, ∀ H8 : Heap, I_ left1 k H8 -> F_96_r4 R H free sizes H4 I_ M_ left1 k H8))))))
def F_96 (R : VP) (free sizes : Sl) (H : Heap) : Prop :=
 letH (H.push (.cells #[vO, vO, vU (0 : Int), vU (0 : Int)] t_39 (0, 0))) (fun H1 =>
 ∃ J_ : Bool -> HP, (
 CallsH Tryz.prog n_92 #[vS free] H1 (fun v H2 =>
 ∃ x : Bool, v = .bool x /\ (
 iteB (!x) (
 J_ true H2) (
 CallsH Tryz.prog n_112 #[vS sizes] H2 (fun v1 H3 =>
 ∃ x1 : Bool, v1 = .bool x1 /\ (
 J_ (!x1) H3)))))) /\ (∀ x2 : Bool, ∀ H4 : Heap, J_ x2 H4 -> F_96_k5 R H free sizes x2 H4))
theorem F_96_ok {R : VP} (free sizes : Sl) {H : Heap} (h : F_96 R free sizes H) : CallsH Tryz.prog n_96 #[vS free, vS sizes] H R := wpF_ok Tryz.func96 (show wpF Tryz.prog Tryz.f96 [(8, vN), (9, vI 0), (10, vI 0), (11, .bool false), (12, vI 0), (21, .bool false)] [(2, [21], [0, 1, 5]), (19, [11], [0, 1, 5, 7, 8, 9, 10])] [(6, [8, 9], [0, 1, 5, 7]), (9, [8, 10], [0, 1, 5, 7, 9]), (14, [11, 12], [0, 1, 5, 7, 8, 9, 10])] [9] _ H R = F_96 R free sizes H by kernel_rfl) h

end Go.Proofs.YtnhhncjflnlfaaaGreat
