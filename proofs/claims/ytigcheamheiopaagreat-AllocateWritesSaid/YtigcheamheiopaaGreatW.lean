/-
  The shallow readings of this seat's functions, written by a program (gen.py); the kernel holds each against the loaded program.
-/
import Derived.Test.YtigcheamheiopaaGreatProg
import Derived.Test.YtigcheamheiopaaGreatW1
namespace Go.Proofs.YtigcheamheiopaaGreat
open Go.Eng
set_option linter.unusedVariables false

/-! ### 36: platformfw/allocate.Place -/

def F_allocate_Place_r1 (R : Value → Heap → Prop) (H : Heap) (free : Sl) (H1 : Heap) (H3 : Heap) (x2 : Sl) (H9 : Heap) (x4 : Sl) (I_1 : Sl → Int → Heap → Prop) (M_1 : Sl → Int → Heap → Nat) (left1 : Sl) (x5 : Int) (H11 : Heap) : Prop :=
  iteB (decide (x5 < (((x2.n : Int).toNat : Nat) : Int))) (
  0 ≤ x5 ∧ x5 < (((x2.n : Int).toNat : Nat) : Int) ∧ (∃ item : Int, rd H11 ((⟨H3.size, 0, none⟩ : Addr).add (x5.toNat * 1)) = some (.int .i64 item) ∧ (
  ∃ x6 : Sl, rd H11 (⟨H.size, 0, none⟩ : Addr) = some (.slice x6.p x6.n x6.c) ∧ (
  0 ≤ item ∧ item < (x6.n : Int) ∧ (unSome x6.p (fun a =>
  ∃ x7 : Int, rd H11 (a.add (item.toNat * 1)) = some (.int .i64 x7) ∧ (
  CallsH Tryz.prog n_allocate_take #[.slice left1.p left1.n left1.c, .int .i64 x7] H11 (fun v3 H12 =>
  ∃ x8 : Int, ∃ x9 : Sl, ∃ x10 : Bool, v3 = .tuple #[.int .u64 x8, .slice x9.p x9.n x9.c, .bool x10] ∧ (
  iteB (!x10) (
  ∃ x11 : Sl, rd H12 (⟨H.size, 0, none⟩ : Addr) = some (.slice x11.p x11.n x11.c) ∧ (
  CallsH Tryz.prog n_allocate_merged #[.slice free.p free.n free.c] H12 (fun v4 H13 =>
  ∃ x12 : Sl, v4 = .slice x12.p x12.n x12.c ∧ (
  Keeps H12 H13 [((⟨H.size, 0, none⟩ : Addr), 1)] ∧ (
  CallsH Tryz.prog n_allocate_certificate #[.slice x12.p x12.n x12.c, .slice x11.p x11.n x11.c] H13 (fun v5 H14 =>
  ∃ x13 : Int, ∃ x14 : Int, ∃ x15 : Int, ∃ x16 : Int, v5 = .agg #[.int .i64 x13, .int .i64 x14, .int .u64 x15, .int .u64 x16] ∧ (
  okRow H14 (⟨H1.size, 0, none⟩ : Addr) 4 ∧ (
  letH (wrs H14 (⟨H1.size, 0, none⟩ : Addr) [.int .i64 x13, .int .i64 x14, .int .u64 x15, .int .u64 x16]) (fun H15 : Heap =>
  ∃ r4 : Int, rd H15 (⟨H1.size, 0, none⟩ : Addr) = some (.int .i64 r4) ∧ ∃ r5 : Int, rd H15 ((⟨H1.size, 0, none⟩ : Addr).add 1) = some (.int .i64 r5) ∧ ∃ r6 : Int, rd H15 ((⟨H1.size, 0, none⟩ : Addr).add 2) = some (.int .u64 r6) ∧ ∃ r7 : Int, rd H15 ((⟨H1.size, 0, none⟩ : Addr).add 3) = some (.int .u64 r7) ∧ (
  R (.tuple #[.slice none 0 0, .agg #[.int .i64 r4, .int .i64 r5, .int .u64 r6, .int .u64 r7], .int .i64 (19 : Int)]) H15)))))))))) (
  0 ≤ item ∧ item < (((x4.n : Int).toNat : Nat) : Int) ∧ (okRow H12 ((⟨H9.size, 0, none⟩ : Addr).add (item.toNat * 1)) 1 ∧ (
  letH (wrs H12 ((⟨H9.size, 0, none⟩ : Addr).add (item.toNat * 1)) [.int .u64 x8]) (fun H16 : Heap =>
  I_1 x9 (IntKind.i64.wrap (x5 + (1 : Int))) H16 ∧ M_1 x9 (IntKind.i64.wrap (x5 + (1 : Int))) H16 < M_1 left1 x5 H11))))))))))))) (
  okRow H11 (⟨H1.size, 0, none⟩ : Addr) 4 ∧ (
  letH (wrs H11 (⟨H1.size, 0, none⟩ : Addr) [.int .i64 (0 : Int), .int .i64 (0 : Int), .int .u64 (0 : Int), .int .u64 (0 : Int)]) (fun H17 : Heap =>
  ∃ r8 : Int, rd H17 (⟨H1.size, 0, none⟩ : Addr) = some (.int .i64 r8) ∧ ∃ r9 : Int, rd H17 ((⟨H1.size, 0, none⟩ : Addr).add 1) = some (.int .i64 r9) ∧ ∃ r10 : Int, rd H17 ((⟨H1.size, 0, none⟩ : Addr).add 2) = some (.int .u64 r10) ∧ ∃ r11 : Int, rd H17 ((⟨H1.size, 0, none⟩ : Addr).add 3) = some (.int .u64 r11) ∧ (
  R (.tuple #[.slice (some (⟨H9.size, 0, none⟩ : Addr)) ((x4.n : Int).toNat) ((x4.n : Int).toNat), .agg #[.int .i64 r8, .int .i64 r9, .int .u64 r10, .int .u64 r11], .int .i64 (0 : Int)]) H17))))

def F_allocate_Place_r2 (R : Value → Heap → Prop) (H : Heap) (free : Sl) (H1 : Heap) (H3 : Heap) (x2 : Sl) (I_ : Int → Heap → Prop) (M_ : Int → Heap → Nat) (x3 : Int) (H6 : Heap) : Prop :=
  iteB (decide (x3 < (((x2.n : Int).toNat : Nat) : Int))) (
  0 ≤ x3 ∧ x3 < (((x2.n : Int).toNat : Nat) : Int) ∧ (okRow H6 ((⟨H3.size, 0, none⟩ : Addr).add (x3.toNat * 1)) 1 ∧ (
  letH (wrs H6 ((⟨H3.size, 0, none⟩ : Addr).add (x3.toNat * 1)) [.int .i64 x3]) (fun H7 : Heap =>
  I_ (IntKind.i64.wrap (x3 + (1 : Int))) H7 ∧ M_ (IntKind.i64.wrap (x3 + (1 : Int))) H7 < M_ x3 H6)))) (
  CallsH Tryz.prog n_slices_SortStableFunc_sl_int_int #[.slice (some (⟨H3.size, 0, none⟩ : Addr)) ((x2.n : Int).toNat) ((x2.n : Int).toNat), .func (.func 68) #[] #[.pointer (some (⟨H.size, 0, none⟩ : Addr))]] H6 (fun v1 H8 =>
  v1 = .tuple #[] ∧ (
  CallsH Tryz.prog n_allocate_merged #[.slice free.p free.n free.c] H8 (fun v2 H9 =>
  ∃ left : Sl, v2 = .slice left.p left.n left.c ∧ (
  ∃ x4 : Sl, rd H9 (⟨H.size, 0, none⟩ : Addr) = some (.slice x4.p x4.n x4.c) ∧ (
  0 ≤ (x4.n : Int) ∧ (x4.n : Int) ≤ (x4.n : Int) ∧ (x4.n : Int) * ((8 : Nat) : Int) ≤ 281474976710656 ∧ (
  letH (H9.push (.cells (zeroRow (.int .u64 (0 : Int)) (x4.n : Int).toNat) t_uint64 (0, 0))) (fun H10 : Heap =>
  ∃ I_1 : Sl → Int → Heap → Prop, ∃ M_1 : Sl → Int → Heap → Nat, I_1 left (0 : Int) H10 ∧ (∀ left1 : Sl, ∀ x5 : Int, ∀ H11 : Heap, I_1 left1 x5 H11 → F_allocate_Place_r1 R H free H1 H3 x2 H9 x4 I_1 M_1 left1 x5 H11)))))))))

def F_allocate_Place (R : Value → Heap → Prop) (free : Sl) (sizes : Sl) (H : Heap) : Prop :=
  letH (H.push (.cells #[.slice sizes.p sizes.n sizes.c] t_sl_int (0, 0))) (fun H1 : Heap =>
  letH (H1.push (.cells #[.int .i64 (0 : Int), .int .i64 (0 : Int), .int .u64 (0 : Int), .int .u64 (0 : Int)] t_api_Certificate (0, 0))) (fun H2 : Heap =>
  ∃ x : Sl, rd H2 (⟨H.size, 0, none⟩ : Addr) = some (.slice x.p x.n x.c) ∧ (
  CallsH Tryz.prog n_allocate_placeable #[.slice free.p free.n free.c, .slice x.p x.n x.c] H2 (fun v H3 =>
  ∃ x1 : Bool, v = .bool x1 ∧ (
  iteB (!x1) (
  okRow H3 (⟨H1.size, 0, none⟩ : Addr) 4 ∧ (
  letH (wrs H3 (⟨H1.size, 0, none⟩ : Addr) [.int .i64 (0 : Int), .int .i64 (0 : Int), .int .u64 (0 : Int), .int .u64 (0 : Int)]) (fun H4 : Heap =>
  ∃ r : Int, rd H4 (⟨H1.size, 0, none⟩ : Addr) = some (.int .i64 r) ∧ ∃ r1 : Int, rd H4 ((⟨H1.size, 0, none⟩ : Addr).add 1) = some (.int .i64 r1) ∧ ∃ r2 : Int, rd H4 ((⟨H1.size, 0, none⟩ : Addr).add 2) = some (.int .u64 r2) ∧ ∃ r3 : Int, rd H4 ((⟨H1.size, 0, none⟩ : Addr).add 3) = some (.int .u64 r3) ∧ (
  R (.tuple #[.slice none 0 0, .agg #[.int .i64 r, .int .i64 r1, .int .u64 r2, .int .u64 r3], .int .i64 (1 : Int)]) H4)))) (
  ∃ x2 : Sl, rd H3 (⟨H.size, 0, none⟩ : Addr) = some (.slice x2.p x2.n x2.c) ∧ (
  0 ≤ (x2.n : Int) ∧ (x2.n : Int) ≤ (x2.n : Int) ∧ (x2.n : Int) * ((8 : Nat) : Int) ≤ 281474976710656 ∧ (
  letH (H3.push (.cells (zeroRow (.int .i64 (0 : Int)) (x2.n : Int).toNat) t_int (0, 0))) (fun H5 : Heap =>
  ∃ I_ : Int → Heap → Prop, ∃ M_ : Int → Heap → Nat, I_ (0 : Int) H5 ∧ (∀ x3 : Int, ∀ H6 : Heap, I_ x3 H6 → F_allocate_Place_r2 R H free H1 H3 x2 I_ M_ x3 H6))))))))))

theorem F_allocate_Place_eq (R : Value → Heap → Prop) (free : Sl) (sizes : Sl) (H : Heap) : wpF Tryz.prog Tryz.f36 [(9, .slice none 0 0), (26, .int .i64 0), (44, .int .i64 0)] [] [(5, [26], [0, 3, 5, 7, 25]), (13, [9, 44], [0, 3, 5, 10, 42, 43])] [20] [.slice free.p free.n free.c, .slice sizes.p sizes.n sizes.c] H R = F_allocate_Place R free sizes H := by kernel_rfl

theorem F_allocate_Place_ok {R : Value → Heap → Prop} (free : Sl) (sizes : Sl) {H : Heap} (h : F_allocate_Place R free sizes H) : CallsH Tryz.prog n_allocate_Place #[.slice free.p free.n free.c, .slice sizes.p sizes.n sizes.c] H R :=
  wpF_ok Tryz.func36 (F_allocate_Place_eq R free sizes H) h

/-! ### 37: platformfw/platformfwhelp.Equal[uint64] -/

def F_help_Equal_uint64_r1 (R : Value → Heap → Prop) (a : Sl) (b : Sl) (I_ : Int → Heap → Prop) (M_ : Int → Heap → Nat) (i : Int) (H1 : Heap) : Prop :=
  iteB (decide (i < (a.n : Int))) (
  0 ≤ i ∧ i < (a.n : Int) ∧ (unSome a.p (fun a1 =>
  ∃ x : Int, rd H1 (a1.add (i.toNat * 1)) = some (.int .u64 x) ∧ (
  0 ≤ i ∧ i < (b.n : Int) ∧ (unSome b.p (fun a2 =>
  ∃ x1 : Int, rd H1 (a2.add (i.toNat * 1)) = some (.int .u64 x1) ∧ (
  iteB (x != x1) (
  R (.bool false) H1) (
  letV (IntKind.i64.wrap (i + (1 : Int))) (fun i1 : Int =>
  I_ i1 H1 ∧ M_ i1 H1 < M_ i H1))))))))) (
  R (.bool true) H1)

def F_help_Equal_uint64 (R : Value → Heap → Prop) (a : Sl) (b : Sl) (H : Heap) : Prop :=
  iteB ((a.n : Int) != (b.n : Int)) (
  R (.bool false) H) (
  ∃ I_ : Int → Heap → Prop, ∃ M_ : Int → Heap → Nat, I_ (0 : Int) H ∧ (∀ i : Int, ∀ H1 : Heap, I_ i H1 → F_help_Equal_uint64_r1 R a b I_ M_ i H1))

theorem F_help_Equal_uint64_eq (R : Value → Heap → Prop) (a : Sl) (b : Sl) (H : Heap) : wpF Tryz.prog Tryz.f37 [(5, .int .i64 0)] [] [(4, [5], [0, 1])] [20] [.slice a.p a.n a.c, .slice b.p b.n b.c] H R = F_help_Equal_uint64 R a b H := by kernel_rfl

theorem F_help_Equal_uint64_ok {R : Value → Heap → Prop} (a : Sl) (b : Sl) {H : Heap} (h : F_help_Equal_uint64 R a b H) : CallsH Tryz.prog n_help_Equal_uint64 #[.slice a.p a.n a.c, .slice b.p b.n b.c] H R :=
  wpF_ok Tryz.func37 (F_help_Equal_uint64_eq R a b H) h

/-! ### 38: platformfw/allocate.Refutes -/

def F_allocate_Refutes (R : Value → Heap → Prop) (free : Sl) (sizes : Sl) (c_0 : Int) (c_1 : Int) (c_2 : Int) (c_3 : Int) (H : Heap) : Prop :=
  letH (H.push (.cells #[.int .i64 c_0, .int .i64 c_1, .int .u64 c_2, .int .u64 c_3] t_api_Certificate (0, 0))) (fun H1 : Heap =>
  CallsH Tryz.prog n_allocate_placeable #[.slice free.p free.n free.c, .slice sizes.p sizes.n sizes.c] H1 (fun v H2 =>
  ∃ x : Bool, v = .bool x ∧ (
  iteB (!x) (
  R (.bool false) H2) (
  ∃ x1 : Int, rd H2 ((⟨H.size, 0, none⟩ : Addr).add 1) = some (.int .i64 x1) ∧ (
  iteB (decide (x1 < (0 : Int))) (
  R (.bool false) H2) (
  ∃ x2 : Int, rd H2 ((⟨H.size, 0, none⟩ : Addr).add 1) = some (.int .i64 x2) ∧ (
  iteB (decide (x2 > (52 : Int))) (
  R (.bool false) H2) (
  ∃ x3 : Int, rd H2 ((⟨H.size, 0, none⟩ : Addr).add 2) = some (.int .u64 x3) ∧ (
  ∃ x4 : Int, rd H2 ((⟨H.size, 0, none⟩ : Addr).add 1) = some (.int .i64 x4) ∧ (
  CallsH Tryz.prog n_allocate_demand #[.slice sizes.p sizes.n sizes.c, .int .i64 x4] H2 (fun v1 H3 =>
  ∃ x5 : Int, v1 = .int .u64 x5 ∧ (
  Keeps H2 H3 [(((⟨H.size, 0, none⟩ : Addr).add 2), 1)] ∧ (
  iteB (x3 != x5) (
  R (.bool false) H3) (
  ∃ x6 : Int, rd H3 ((⟨H.size, 0, none⟩ : Addr).add 3) = some (.int .u64 x6) ∧ (
  ∃ x7 : Int, rd H3 ((⟨H.size, 0, none⟩ : Addr).add 1) = some (.int .i64 x7) ∧ (
  CallsH Tryz.prog n_allocate_Blocks #[.slice free.p free.n free.c, .int .i64 x7] H3 (fun v2 H4 =>
  ∃ x8 : Int, v2 = .int .u64 x8 ∧ (
  Keeps H3 H4 [(((⟨H.size, 0, none⟩ : Addr).add 3), 1)] ∧ (
  iteB (x6 != x8) (
  R (.bool false) H4) (
  ∃ x9 : Int, rd H4 ((⟨H.size, 0, none⟩ : Addr).add 2) = some (.int .u64 x9) ∧ (
  ∃ x10 : Int, rd H4 ((⟨H.size, 0, none⟩ : Addr).add 3) = some (.int .u64 x10) ∧ (
  ∃ x11 : Int, rd H4 ((⟨H.size, 0, none⟩ : Addr).add 1) = some (.int .i64 x11) ∧ (
  0 ≤ x11 ∧ (
  R (.bool (decide (x9 > (IntKind.u64.wrap (x10 * 2 ^ (min x11.toNat IntKind.u64.bits)))))) H4))))))))))))))))))))))))

theorem F_allocate_Refutes_eq (R : Value → Heap → Prop) (free : Sl) (sizes : Sl) (c_0 : Int) (c_1 : Int) (c_2 : Int) (c_3 : Int) (H : Heap) : wpF Tryz.prog Tryz.f38 [] [] [] [20] [.slice free.p free.n free.c, .slice sizes.p sizes.n sizes.c, .agg #[.int .i64 c_0, .int .i64 c_1, .int .u64 c_2, .int .u64 c_3]] H R = F_allocate_Refutes R free sizes c_0 c_1 c_2 c_3 H := by kernel_rfl

theorem F_allocate_Refutes_ok {R : Value → Heap → Prop} (free : Sl) (sizes : Sl) (c_0 : Int) (c_1 : Int) (c_2 : Int) (c_3 : Int) {H : Heap} (h : F_allocate_Refutes R free sizes c_0 c_1 c_2 c_3 H) : CallsH Tryz.prog n_allocate_Refutes #[.slice free.p free.n free.c, .slice sizes.p sizes.n sizes.c, .agg #[.int .i64 c_0, .int .i64 c_1, .int .u64 c_2, .int .u64 c_3]] H R :=
  wpF_ok Tryz.func38 (F_allocate_Refutes_eq R free sizes c_0 c_1 c_2 c_3 H) h

/-! ### 39: platformfw/allocate.covers -/

def F_allocate_covers_r1 (R : Value → Heap → Prop) (a : Sl) (x : Sl) (I_ : Int → Heap → Prop) (M_ : Int → Heap → Nat) (x2 : Int) (H2 : Heap) : Prop :=
  iteB (decide (x2 < (x.n : Int))) (
  0 ≤ x2 ∧ x2 < (x.n : Int) ∧ (unSome x.p (fun a1 =>
  ∃ x3 : Int, rd H2 (a1.add (x2.toNat * 4)) = some (.int .i64 x3) ∧ ∃ x4 : Int, rd H2 ((a1.add (x2.toNat * 4)).add 1) = some (.int .i64 x4) ∧ ∃ x5 : Int, rd H2 ((a1.add (x2.toNat * 4)).add 2) = some (.int .i64 x5) ∧ ∃ x6 : Int, rd H2 ((a1.add (x2.toNat * 4)).add 3) = some (.int .i64 x6) ∧ (
  letH (H2.push (.cells #[.int .i64 (0 : Int), .int .i64 (0 : Int), .int .i64 (0 : Int), .int .i64 (0 : Int)] t_api_Need (0, 0))) (fun H3 : Heap =>
  okRow H3 (⟨H2.size, 0, none⟩ : Addr) 4 ∧ (
  letH (wrs H3 (⟨H2.size, 0, none⟩ : Addr) [.int .i64 x3, .int .i64 x4, .int .i64 x5, .int .i64 x6]) (fun H4 : Heap =>
  0 ≤ x2 ∧ x2 < (a.n : Int) ∧ (unSome a.p (fun a2 =>
  ∃ x7 : Int, rd H4 (a2.add (x2.toNat * 5)) = some (.int .i64 x7) ∧ ∃ x8 : Int, rd H4 ((a2.add (x2.toNat * 5)).add 1) = some (.int .i64 x8) ∧ ∃ x9 : Int, rd H4 ((a2.add (x2.toNat * 5)).add 2) = some (.int .i64 x9) ∧ ∃ x10 : Int, rd H4 ((a2.add (x2.toNat * 5)).add 3) = some (.int .i64 x10) ∧ (
  ∃ x11 : Int, rd H4 (⟨H2.size, 0, none⟩ : Addr) = some (.int .i64 x11) ∧ ∃ x12 : Int, rd H4 ((⟨H2.size, 0, none⟩ : Addr).add 1) = some (.int .i64 x12) ∧ ∃ x13 : Int, rd H4 ((⟨H2.size, 0, none⟩ : Addr).add 2) = some (.int .i64 x13) ∧ ∃ x14 : Int, rd H4 ((⟨H2.size, 0, none⟩ : Addr).add 3) = some (.int .i64 x14) ∧ (
  iteB (!((x7 == x11) && ((x8 == x12) && ((x9 == x13) && ((x10 == x14) && true))))) (
  R (.bool false) H4) (
  I_ (IntKind.i64.wrap (x2 + (1 : Int))) H4 ∧ M_ (IntKind.i64.wrap (x2 + (1 : Int))) H4 < M_ x2 H2)))))))))))) (
  R (.bool true) H2)

def F_allocate_covers (R : Value → Heap → Prop) (l : Sl) (high : Bool) (a : Sl) (H : Heap) : Prop :=
  CallsH Tryz.prog n_resources_Needs #[.slice l.p l.n l.c, .bool high] H (fun v H1 =>
  ∃ x : Sl, ∃ x1 : Int, v = .tuple #[.slice x.p x.n x.c, .int .i64 x1] ∧ (
  iteB (x1 != (0 : Int)) (
  R (.bool false) H1) (
  iteB ((x.n : Int) != (a.n : Int)) (
  R (.bool false) H1) (
  ∃ I_ : Int → Heap → Prop, ∃ M_ : Int → Heap → Nat, I_ (0 : Int) H1 ∧ (∀ x2 : Int, ∀ H2 : Heap, I_ x2 H2 → F_allocate_covers_r1 R a x I_ M_ x2 H2)))))

theorem F_allocate_covers_eq (R : Value → Heap → Prop) (l : Sl) (high : Bool) (a : Sl) (H : Heap) : wpF Tryz.prog Tryz.f39 [(28, .int .i64 0)] [] [(5, [28], [2, 26, 27])] [20] [.slice l.p l.n l.c, .bool high, .slice a.p a.n a.c] H R = F_allocate_covers R l high a H := by kernel_rfl

theorem F_allocate_covers_ok {R : Value → Heap → Prop} (l : Sl) (high : Bool) (a : Sl) {H : Heap} (h : F_allocate_covers R l high a H) : CallsH Tryz.prog n_allocate_covers #[.slice l.p l.n l.c, .bool high, .slice a.p a.n a.c] H R :=
  wpF_ok Tryz.func39 (F_allocate_covers_eq R l high a H) h

/-! ### 40: platformfw/allocate.barWrites -/

def F_allocate_barWrites_k1 (R : Value → Heap → Prop) (H1 : Heap) (offset : Int) (ops1 : Sl) (x11 : Bool) (H6 : Heap) : Prop :=
  iteB x11 (
  ∃ x12 : Int, rd H6 (⟨H1.size, 0, none⟩ : Addr) = some (.int .i64 x12) ∧ (
  ∃ x13 : Int, rd H6 ((⟨H1.size, 0, none⟩ : Addr).add 4) = some (.int .u64 x13) ∧ (
  0 ≤ (32 : Int) ∧ (
  CallsH Tryz.prog n_allocate_write #[.int .i64 x12, .int .i64 (IntKind.i64.wrap (offset + (4 : Int))), .int .i64 (4 : Int), .int .u64 (x13.fdiv (2 ^ (min (32 : Int).toNat IntKind.u64.bits)))] H6 (fun v2 H7 =>
  ∃ x14 : Int, ∃ x15 : Int, ∃ x16 : Int, ∃ x17 : Bool, ∃ x18 : Int, v2 = .agg #[.int .i64 x14, .int .i64 x15, .int .i64 x16, .bool x17, .int .u64 x18] ∧ (
  letH (H7.push (.cells #[.int .i64 x14, .int .i64 x15, .int .i64 x16, .bool x17, .int .u64 x18] t_api_ConfigOp (0, 0))) (fun H8 : Heap =>
  runH Tryz.prog (Builtin.append_ #[t_sl_api_ConfigOp, t_sl_api_ConfigOp] t_sl_api_ConfigOp #[.slice ops1.p ops1.n ops1.c, .slice (some (⟨H7.size, 0, none⟩ : Addr)) 1 1]) H8 (fun v3 H9 =>
  ∃ ops2 : Sl, v3 = .slice ops2.p ops2.n ops2.c ∧ (
  R (.slice ops2.p ops2.n ops2.c) H9))))))))) (
  R (.slice ops1.p ops1.n ops1.c) H6)

def F_allocate_barWrites (R : Value → Heap → Prop) (ops : Sl) (f_0 : Int) (f_1 : Int) (f_2 : Int) (f_3 : Int) (f_4 : Bool) (f_5 : Bool) (f_6 : Bool) (f_7 : Int) (f_8 : Int) (f_9 : Int) (f_10 : Sl) (x_0 : Int) (x_1 : Int) (x_2 : Int) (x_3 : Int) (x_4 : Int) (H : Heap) : Prop :=
  letH (H.push (.cells #[.int .i64 f_0, .int .i64 f_1, .int .i64 f_2, .int .i64 f_3, .bool f_4, .bool f_5, .bool f_6, .int .i64 f_7, .int .i64 f_8, .int .i64 f_9, .slice f_10.p f_10.n f_10.c] t_api_Function (0, 0))) (fun H1 : Heap =>
  letH (H1.push (.cells #[.int .i64 x_0, .int .i64 x_1, .int .i64 x_2, .int .i64 x_3, .int .u64 x_4] t_api_Assignment (0, 0))) (fun H2 : Heap =>
  ∃ x : Int, rd H2 ((⟨H1.size, 0, none⟩ : Addr).add 1) = some (.int .i64 x) ∧ (
  letV (IntKind.i64.wrap ((16 : Int) + (IntKind.i64.wrap ((4 : Int) * x)))) (fun offset : Int =>
  ∃ x1 : Int, rd H2 (⟨H1.size, 0, none⟩ : Addr) = some (.int .i64 x1) ∧ (
  ∃ x2 : Int, rd H2 ((⟨H1.size, 0, none⟩ : Addr).add 4) = some (.int .u64 x2) ∧ (
  CallsH Tryz.prog n_allocate_write #[.int .i64 x1, .int .i64 offset, .int .i64 (4 : Int), .int .u64 (bitsAnd .u64 x2 (4294967295 : Int))] H2 (fun v H3 =>
  ∃ x3 : Int, ∃ x4 : Int, ∃ x5 : Int, ∃ x6 : Bool, ∃ x7 : Int, v = .agg #[.int .i64 x3, .int .i64 x4, .int .i64 x5, .bool x6, .int .u64 x7] ∧ (
  letH (H3.push (.cells #[.int .i64 x3, .int .i64 x4, .int .i64 x5, .bool x6, .int .u64 x7] t_api_ConfigOp (0, 0))) (fun H4 : Heap =>
  runH Tryz.prog (Builtin.append_ #[t_sl_api_ConfigOp, t_sl_api_ConfigOp] t_sl_api_ConfigOp #[.slice ops.p ops.n ops.c, .slice (some (⟨H3.size, 0, none⟩ : Addr)) 1 1]) H4 (fun v1 H5 =>
  ∃ ops1 : Sl, v1 = .slice ops1.p ops1.n ops1.c ∧ (
  ∃ x8 : Sl, rd H5 ((⟨H.size, 0, none⟩ : Addr).add 10) = some (.slice x8.p x8.n x8.c) ∧ (
  ∃ x9 : Int, rd H5 ((⟨H1.size, 0, none⟩ : Addr).add 1) = some (.int .i64 x9) ∧ (
  0 ≤ x9 ∧ x9 < (x8.n : Int) ∧ (unSome x8.p (fun a =>
  ∃ x10 : Int, rd H5 (a.add (x9.toNat * 2)) = some (.int .i64 x10) ∧ (
  ∃ J_ : Bool → Heap → Prop, (
  iteB (x10 == (3 : Int)) (
  J_ true H5) (
  J_ (x10 == (4 : Int)) H5)) ∧ (∀ x11 : Bool, ∀ H6 : Heap, J_ x11 H6 → F_allocate_barWrites_k1 R H1 offset ops1 x11 H6)))))))))))))))))

theorem F_allocate_barWrites_eq (R : Value → Heap → Prop) (ops : Sl) (f_0 : Int) (f_1 : Int) (f_2 : Int) (f_3 : Int) (f_4 : Bool) (f_5 : Bool) (f_6 : Bool) (f_7 : Int) (f_8 : Int) (f_9 : Int) (f_10 : Sl) (x_0 : Int) (x_1 : Int) (x_2 : Int) (x_3 : Int) (x_4 : Int) (H : Heap) : wpF Tryz.prog Tryz.f40 [(32, .bool false)] [(6, [32], [0, 5, 7])] [] [20] [.slice ops.p ops.n ops.c, .agg #[.int .i64 f_0, .int .i64 f_1, .int .i64 f_2, .int .i64 f_3, .bool f_4, .bool f_5, .bool f_6, .int .i64 f_7, .int .i64 f_8, .int .i64 f_9, .slice f_10.p f_10.n f_10.c], .agg #[.int .i64 x_0, .int .i64 x_1, .int .i64 x_2, .int .i64 x_3, .int .u64 x_4]] H R = F_allocate_barWrites R ops f_0 f_1 f_2 f_3 f_4 f_5 f_6 f_7 f_8 f_9 f_10 x_0 x_1 x_2 x_3 x_4 H := by kernel_rfl

theorem F_allocate_barWrites_ok {R : Value → Heap → Prop} (ops : Sl) (f_0 : Int) (f_1 : Int) (f_2 : Int) (f_3 : Int) (f_4 : Bool) (f_5 : Bool) (f_6 : Bool) (f_7 : Int) (f_8 : Int) (f_9 : Int) (f_10 : Sl) (x_0 : Int) (x_1 : Int) (x_2 : Int) (x_3 : Int) (x_4 : Int) {H : Heap} (h : F_allocate_barWrites R ops f_0 f_1 f_2 f_3 f_4 f_5 f_6 f_7 f_8 f_9 f_10 x_0 x_1 x_2 x_3 x_4 H) : CallsH Tryz.prog n_allocate_barWrites #[.slice ops.p ops.n ops.c, .agg #[.int .i64 f_0, .int .i64 f_1, .int .i64 f_2, .int .i64 f_3, .bool f_4, .bool f_5, .bool f_6, .int .i64 f_7, .int .i64 f_8, .int .i64 f_9, .slice f_10.p f_10.n f_10.c], .agg #[.int .i64 x_0, .int .i64 x_1, .int .i64 x_2, .int .i64 x_3, .int .u64 x_4]] H R :=
  wpF_ok Tryz.func40 (F_allocate_barWrites_eq R ops f_0 f_1 f_2 f_3 f_4 f_5 f_6 f_7 f_8 f_9 f_10 x_0 x_1 x_2 x_3 x_4 H) h

/-! ### 41: platformfw/allocate.bridgeWrites -/

def F_allocate_bridgeWrites_k1 (H : Heap) (bridge : Int) (I_ : Sl → Int → Heap → Prop) (M_ : Sl → Int → Heap → Nat) (ops1 : Sl) (x : Int) (H2 : Heap) (first : Int) (last1 : Int) (H4 : Heap) : Prop :=
  iteB (x == (0 : Int)) (
  0 ≤ (8 : Int) ∧ (
  CallsH Tryz.prog n_allocate_write #[.int .i64 bridge, .int .i64 (28 : Int), .int .i64 (1 : Int), .int .u64 (bitsAnd .u64 (first.fdiv (2 ^ (min (8 : Int).toNat IntKind.u64.bits))) (240 : Int))] H4 (fun v1 H5 =>
  ∃ x4 : Int, ∃ x5 : Int, ∃ x6 : Int, ∃ x7 : Bool, ∃ x8 : Int, v1 = .agg #[.int .i64 x4, .int .i64 x5, .int .i64 x6, .bool x7, .int .u64 x8] ∧ (
  0 ≤ (8 : Int) ∧ (
  CallsH Tryz.prog n_allocate_write #[.int .i64 bridge, .int .i64 (29 : Int), .int .i64 (1 : Int), .int .u64 (bitsAnd .u64 (last1.fdiv (2 ^ (min (8 : Int).toNat IntKind.u64.bits))) (240 : Int))] H5 (fun v2 H6 =>
  ∃ x9 : Int, ∃ x10 : Int, ∃ x11 : Int, ∃ x12 : Bool, ∃ x13 : Int, v2 = .agg #[.int .i64 x9, .int .i64 x10, .int .i64 x11, .bool x12, .int .u64 x13] ∧ (
  letH (H6.push (.cells #[.int .i64 x4, .int .i64 x5, .int .i64 x6, .bool x7, .int .u64 x8, .int .i64 x9, .int .i64 x10, .int .i64 x11, .bool x12, .int .u64 x13] t_api_ConfigOp (0, 0))) (fun H7 : Heap =>
  runH Tryz.prog (Builtin.append_ #[t_sl_api_ConfigOp, t_sl_api_ConfigOp] t_sl_api_ConfigOp #[.slice ops1.p ops1.n ops1.c, .slice (some (⟨H6.size, 0, none⟩ : Addr)) 2 2]) H7 (fun v3 H8 =>
  ∃ ops2 : Sl, v3 = .slice ops2.p ops2.n ops2.c ∧ (
  I_ ops2 (IntKind.i64.wrap (x + (1 : Int))) H8 ∧ M_ ops2 (IntKind.i64.wrap (x + (1 : Int))) H8 < M_ ops1 x H2)))))))))) (
  iteB (x == (1 : Int)) (
  0 ≤ (16 : Int) ∧ (
  CallsH Tryz.prog n_allocate_write #[.int .i64 bridge, .int .i64 (32 : Int), .int .i64 (2 : Int), .int .u64 (bitsAnd .u64 (first.fdiv (2 ^ (min (16 : Int).toNat IntKind.u64.bits))) (65520 : Int))] H4 (fun v4 H9 =>
  ∃ x14 : Int, ∃ x15 : Int, ∃ x16 : Int, ∃ x17 : Bool, ∃ x18 : Int, v4 = .agg #[.int .i64 x14, .int .i64 x15, .int .i64 x16, .bool x17, .int .u64 x18] ∧ (
  0 ≤ (16 : Int) ∧ (
  CallsH Tryz.prog n_allocate_write #[.int .i64 bridge, .int .i64 (34 : Int), .int .i64 (2 : Int), .int .u64 (bitsAnd .u64 (last1.fdiv (2 ^ (min (16 : Int).toNat IntKind.u64.bits))) (65520 : Int))] H9 (fun v5 H10 =>
  ∃ x19 : Int, ∃ x20 : Int, ∃ x21 : Int, ∃ x22 : Bool, ∃ x23 : Int, v5 = .agg #[.int .i64 x19, .int .i64 x20, .int .i64 x21, .bool x22, .int .u64 x23] ∧ (
  letH (H10.push (.cells #[.int .i64 x14, .int .i64 x15, .int .i64 x16, .bool x17, .int .u64 x18, .int .i64 x19, .int .i64 x20, .int .i64 x21, .bool x22, .int .u64 x23] t_api_ConfigOp (0, 0))) (fun H11 : Heap =>
  runH Tryz.prog (Builtin.append_ #[t_sl_api_ConfigOp, t_sl_api_ConfigOp] t_sl_api_ConfigOp #[.slice ops1.p ops1.n ops1.c, .slice (some (⟨H10.size, 0, none⟩ : Addr)) 2 2]) H11 (fun v6 H12 =>
  ∃ ops3 : Sl, v6 = .slice ops3.p ops3.n ops3.c ∧ (
  I_ ops3 (IntKind.i64.wrap (x + (1 : Int))) H12 ∧ M_ ops3 (IntKind.i64.wrap (x + (1 : Int))) H12 < M_ ops1 x H2)))))))))) (
  ∃ x24 : Bool, rd H4 ((⟨H.size, 0, none⟩ : Addr).add 5) = some (.bool x24) ∧ (
  iteB x24 (
  0 ≤ (16 : Int) ∧ (
  CallsH Tryz.prog n_allocate_write #[.int .i64 bridge, .int .i64 (36 : Int), .int .i64 (2 : Int), .int .u64 (bitsAnd .u64 (first.fdiv (2 ^ (min (16 : Int).toNat IntKind.u64.bits))) (65520 : Int))] H4 (fun v7 H13 =>
  ∃ x25 : Int, ∃ x26 : Int, ∃ x27 : Int, ∃ x28 : Bool, ∃ x29 : Int, v7 = .agg #[.int .i64 x25, .int .i64 x26, .int .i64 x27, .bool x28, .int .u64 x29] ∧ (
  0 ≤ (16 : Int) ∧ (
  CallsH Tryz.prog n_allocate_write #[.int .i64 bridge, .int .i64 (38 : Int), .int .i64 (2 : Int), .int .u64 (bitsAnd .u64 (last1.fdiv (2 ^ (min (16 : Int).toNat IntKind.u64.bits))) (65520 : Int))] H13 (fun v8 H14 =>
  ∃ x30 : Int, ∃ x31 : Int, ∃ x32 : Int, ∃ x33 : Bool, ∃ x34 : Int, v8 = .agg #[.int .i64 x30, .int .i64 x31, .int .i64 x32, .bool x33, .int .u64 x34] ∧ (
  0 ≤ (32 : Int) ∧ (
  CallsH Tryz.prog n_allocate_write #[.int .i64 bridge, .int .i64 (40 : Int), .int .i64 (4 : Int), .int .u64 (first.fdiv (2 ^ (min (32 : Int).toNat IntKind.u64.bits)))] H14 (fun v9 H15 =>
  ∃ x35 : Int, ∃ x36 : Int, ∃ x37 : Int, ∃ x38 : Bool, ∃ x39 : Int, v9 = .agg #[.int .i64 x35, .int .i64 x36, .int .i64 x37, .bool x38, .int .u64 x39] ∧ (
  0 ≤ (32 : Int) ∧ (
  CallsH Tryz.prog n_allocate_write #[.int .i64 bridge, .int .i64 (44 : Int), .int .i64 (4 : Int), .int .u64 (last1.fdiv (2 ^ (min (32 : Int).toNat IntKind.u64.bits)))] H15 (fun v10 H16 =>
  ∃ x40 : Int, ∃ x41 : Int, ∃ x42 : Int, ∃ x43 : Bool, ∃ x44 : Int, v10 = .agg #[.int .i64 x40, .int .i64 x41, .int .i64 x42, .bool x43, .int .u64 x44] ∧ (
  letH (H16.push (.cells #[.int .i64 x25, .int .i64 x26, .int .i64 x27, .bool x28, .int .u64 x29, .int .i64 x30, .int .i64 x31, .int .i64 x32, .bool x33, .int .u64 x34, .int .i64 x35, .int .i64 x36, .int .i64 x37, .bool x38, .int .u64 x39, .int .i64 x40, .int .i64 x41, .int .i64 x42, .bool x43, .int .u64 x44] t_api_ConfigOp (0, 0))) (fun H17 : Heap =>
  runH Tryz.prog (Builtin.append_ #[t_sl_api_ConfigOp, t_sl_api_ConfigOp] t_sl_api_ConfigOp #[.slice ops1.p ops1.n ops1.c, .slice (some (⟨H16.size, 0, none⟩ : Addr)) 4 4]) H17 (fun v11 H18 =>
  ∃ ops4 : Sl, v11 = .slice ops4.p ops4.n ops4.c ∧ (
  I_ ops4 (IntKind.i64.wrap (x + (1 : Int))) H18 ∧ M_ ops4 (IntKind.i64.wrap (x + (1 : Int))) H18 < M_ ops1 x H2)))))))))))))))) (
  I_ ops1 (IntKind.i64.wrap (x + (1 : Int))) H4 ∧ M_ ops1 (IntKind.i64.wrap (x + (1 : Int))) H4 < M_ ops1 x H2))))

def F_allocate_bridgeWrites_r2 (R : Value → Heap → Prop) (H : Heap) (bridge : Int) (a : Sl) (I_ : Sl → Int → Heap → Prop) (M_ : Sl → Int → Heap → Nat) (ops1 : Sl) (x : Int) (H2 : Heap) : Prop :=
  iteB (decide (x < (3 : Int))) (
  ∃ J_ : Int → Int → Heap → Prop, (
  CallsH Tryz.prog n_allocate_window #[.slice a.p a.n a.c, .int .i64 bridge, .int .i64 x] H2 (fun v H3 =>
  ∃ x1 : Int, ∃ x2 : Int, ∃ x3 : Bool, v = .tuple #[.int .u64 x1, .int .u64 x2, .bool x3] ∧ (
  iteB x3 (
  letV (IntKind.u64.wrap ((IntKind.u64.wrap (x1 + x2)) - (1 : Int))) (fun last : Int =>
  J_ x1 last H3)) (
  J_ (18446744073709551615 : Int) (0 : Int) H3)))) ∧ (∀ first : Int, ∀ last1 : Int, ∀ H4 : Heap, J_ first last1 H4 → F_allocate_bridgeWrites_k1 H bridge I_ M_ ops1 x H2 first last1 H4)) (
  R (.slice ops1.p ops1.n ops1.c) H2)

def F_allocate_bridgeWrites (R : Value → Heap → Prop) (ops : Sl) (bridge : Int) (f_0 : Int) (f_1 : Int) (f_2 : Int) (f_3 : Int) (f_4 : Bool) (f_5 : Bool) (f_6 : Bool) (f_7 : Int) (f_8 : Int) (f_9 : Int) (f_10 : Sl) (a : Sl) (H : Heap) : Prop :=
  letH (H.push (.cells #[.int .i64 f_0, .int .i64 f_1, .int .i64 f_2, .int .i64 f_3, .bool f_4, .bool f_5, .bool f_6, .int .i64 f_7, .int .i64 f_8, .int .i64 f_9, .slice f_10.p f_10.n f_10.c] t_api_Function (0, 0))) (fun H1 : Heap =>
  ∃ I_ : Sl → Int → Heap → Prop, ∃ M_ : Sl → Int → Heap → Nat, I_ ops (0 : Int) H1 ∧ (∀ ops1 : Sl, ∀ x : Int, ∀ H2 : Heap, I_ ops1 x H2 → F_allocate_bridgeWrites_r2 R H bridge a I_ M_ ops1 x H2))

theorem F_allocate_bridgeWrites_eq (R : Value → Heap → Prop) (ops : Sl) (bridge : Int) (f_0 : Int) (f_1 : Int) (f_2 : Int) (f_3 : Int) (f_4 : Bool) (f_5 : Bool) (f_6 : Bool) (f_7 : Int) (f_8 : Int) (f_9 : Int) (f_10 : Sl) (a : Sl) (H : Heap) : wpF Tryz.prog Tryz.f41 [(0, .slice none 0 0), (10, .int .u64 0), (11, .int .u64 0), (15, .int .i64 0)] [(8, [10, 11], [0, 1, 3, 6, 9, 15])] [(2, [0, 15], [1, 3, 6])] [20] [.slice ops.p ops.n ops.c, .int .i64 bridge, .agg #[.int .i64 f_0, .int .i64 f_1, .int .i64 f_2, .int .i64 f_3, .bool f_4, .bool f_5, .bool f_6, .int .i64 f_7, .int .i64 f_8, .int .i64 f_9, .slice f_10.p f_10.n f_10.c], .slice a.p a.n a.c] H R = F_allocate_bridgeWrites R ops bridge f_0 f_1 f_2 f_3 f_4 f_5 f_6 f_7 f_8 f_9 f_10 a H := by kernel_rfl

theorem F_allocate_bridgeWrites_ok {R : Value → Heap → Prop} (ops : Sl) (bridge : Int) (f_0 : Int) (f_1 : Int) (f_2 : Int) (f_3 : Int) (f_4 : Bool) (f_5 : Bool) (f_6 : Bool) (f_7 : Int) (f_8 : Int) (f_9 : Int) (f_10 : Sl) (a : Sl) {H : Heap} (h : F_allocate_bridgeWrites R ops bridge f_0 f_1 f_2 f_3 f_4 f_5 f_6 f_7 f_8 f_9 f_10 a H) : CallsH Tryz.prog n_allocate_bridgeWrites #[.slice ops.p ops.n ops.c, .int .i64 bridge, .agg #[.int .i64 f_0, .int .i64 f_1, .int .i64 f_2, .int .i64 f_3, .bool f_4, .bool f_5, .bool f_6, .int .i64 f_7, .int .i64 f_8, .int .i64 f_9, .slice f_10.p f_10.n f_10.c], .slice a.p a.n a.c] H R :=
  wpF_ok Tryz.func41 (F_allocate_bridgeWrites_eq R ops bridge f_0 f_1 f_2 f_3 f_4 f_5 f_6 f_7 f_8 f_9 f_10 a H) h

/-! ### 42: platformfw/allocate.write -/

def F_allocate_write (R : Value → Heap → Prop) (function : Int) (offset : Int) (width : Int) (v : Int) (H : Heap) : Prop :=
  letH (H.push (.cells #[.int .i64 (0 : Int), .int .i64 (0 : Int), .int .i64 (0 : Int), .bool false, .int .u64 (0 : Int)] t_api_ConfigOp (0, 0))) (fun H1 : Heap =>
  okRow H1 (⟨H.size, 0, none⟩ : Addr) 5 ∧ (
  letH (wrs H1 (⟨H.size, 0, none⟩ : Addr) [.int .i64 function, .int .i64 offset, .int .i64 width, .bool true, .int .u64 v]) (fun H2 : Heap =>
  ∃ r : Int, rd H2 (⟨H.size, 0, none⟩ : Addr) = some (.int .i64 r) ∧ ∃ r1 : Int, rd H2 ((⟨H.size, 0, none⟩ : Addr).add 1) = some (.int .i64 r1) ∧ ∃ r2 : Int, rd H2 ((⟨H.size, 0, none⟩ : Addr).add 2) = some (.int .i64 r2) ∧ ∃ r3 : Bool, rd H2 ((⟨H.size, 0, none⟩ : Addr).add 3) = some (.bool r3) ∧ ∃ r4 : Int, rd H2 ((⟨H.size, 0, none⟩ : Addr).add 4) = some (.int .u64 r4) ∧ (
  R (.agg #[.int .i64 r, .int .i64 r1, .int .i64 r2, .bool r3, .int .u64 r4]) H2))))

theorem F_allocate_write_eq (R : Value → Heap → Prop) (function : Int) (offset : Int) (width : Int) (v : Int) (H : Heap) : wpF Tryz.prog Tryz.f42 [] [] [] [20] [.int .i64 function, .int .i64 offset, .int .i64 width, .int .u64 v] H R = F_allocate_write R function offset width v H := by kernel_rfl

theorem F_allocate_write_ok {R : Value → Heap → Prop} (function : Int) (offset : Int) (width : Int) (v : Int) {H : Heap} (h : F_allocate_write R function offset width v H) : CallsH Tryz.prog n_allocate_write #[.int .i64 function, .int .i64 offset, .int .i64 width, .int .u64 v] H R :=
  wpF_ok Tryz.func42 (F_allocate_write_eq R function offset width v H) h

/-! ### 43: platformfw/platformfwref21.needed -/

def F_ref21_needed_r1 (R : Value → Heap → Prop) (a : Sl) (I_ : Int → Heap → Prop) (M_ : Int → Heap → Nat) (k : Int) (H1 : Heap) (x : Sl) (I_1 : Bool → Int → Heap → Prop) (M_1 : Bool → Int → Heap → Nat) (same1 : Bool) (i : Int) (H4 : Heap) : Prop :=
  iteB same1 (
  iteB (decide (i < (a.n : Int))) (
  0 ≤ i ∧ i < (a.n : Int) ∧ (unSome a.p (fun a1 =>
  ∃ x2 : Int, rd H4 (a1.add (i.toNat * 5)) = some (.int .i64 x2) ∧ ∃ x3 : Int, rd H4 ((a1.add (i.toNat * 5)).add 1) = some (.int .i64 x3) ∧ ∃ x4 : Int, rd H4 ((a1.add (i.toNat * 5)).add 2) = some (.int .i64 x4) ∧ ∃ x5 : Int, rd H4 ((a1.add (i.toNat * 5)).add 3) = some (.int .i64 x5) ∧ (
  0 ≤ i ∧ i < (x.n : Int) ∧ (unSome x.p (fun a2 =>
  ∃ x6 : Int, rd H4 (a2.add (i.toNat * 4)) = some (.int .i64 x6) ∧ ∃ x7 : Int, rd H4 ((a2.add (i.toNat * 4)).add 1) = some (.int .i64 x7) ∧ ∃ x8 : Int, rd H4 ((a2.add (i.toNat * 4)).add 2) = some (.int .i64 x8) ∧ ∃ x9 : Int, rd H4 ((a2.add (i.toNat * 4)).add 3) = some (.int .i64 x9) ∧ (
  letV (IntKind.i64.wrap (i + (1 : Int))) (fun i1 : Int =>
  I_1 ((x2 == x6) && ((x3 == x7) && ((x4 == x8) && ((x5 == x9) && true)))) i1 H4 ∧ M_1 ((x2 == x6) && ((x3 == x7) && ((x4 == x8) && ((x5 == x9) && true)))) i1 H4 < M_1 same1 i H4)))))))) (
  iteB same1 (
  R (.bool true) H4) (
  letV (IntKind.i64.wrap (k + (1 : Int))) (fun k1 : Int =>
  I_ k1 H4 ∧ M_ k1 H4 < M_ k H1)))) (
  iteB same1 (
  R (.bool true) H4) (
  letV (IntKind.i64.wrap (k + (1 : Int))) (fun k2 : Int =>
  I_ k2 H4 ∧ M_ k2 H4 < M_ k H1)))

def F_ref21_needed_k2 (R : Value → Heap → Prop) (a : Sl) (I_ : Int → Heap → Prop) (M_ : Int → Heap → Nat) (k : Int) (H1 : Heap) (x : Sl) (same : Bool) (H3 : Heap) : Prop :=
  ∃ I_1 : Bool → Int → Heap → Prop, ∃ M_1 : Bool → Int → Heap → Nat, I_1 same (0 : Int) H3 ∧ (∀ same1 : Bool, ∀ i : Int, ∀ H4 : Heap, I_1 same1 i H4 → F_ref21_needed_r1 R a I_ M_ k H1 x I_1 M_1 same1 i H4)

def F_ref21_needed_r3 (R : Value → Heap → Prop) (l : Sl) (a : Sl) (I_ : Int → Heap → Prop) (M_ : Int → Heap → Nat) (k : Int) (H1 : Heap) : Prop :=
  iteB (decide (k < (2 : Int))) (
  CallsH Tryz.prog n_ref18_Needs #[.slice l.p l.n l.c, .bool (k == (1 : Int))] H1 (fun v H2 =>
  ∃ x : Sl, ∃ x1 : Int, v = .tuple #[.slice x.p x.n x.c, .int .i64 x1] ∧ (
  ∃ J_ : Bool → Heap → Prop, (
  iteB (x1 == (0 : Int)) (
  J_ ((x.n : Int) == (a.n : Int)) H2) (
  J_ false H2)) ∧ (∀ same : Bool, ∀ H3 : Heap, J_ same H3 → F_ref21_needed_k2 R a I_ M_ k H1 x same H3)))) (
  R (.bool false) H1)

def F_ref21_needed (R : Value → Heap → Prop) (l : Sl) (a : Sl) (H : Heap) : Prop :=
  ∃ I_ : Int → Heap → Prop, ∃ M_ : Int → Heap → Nat, I_ (0 : Int) H ∧ (∀ k : Int, ∀ H1 : Heap, I_ k H1 → F_ref21_needed_r3 R l a I_ M_ k H1)

theorem F_ref21_needed_eq (R : Value → Heap → Prop) (l : Sl) (a : Sl) (H : Heap) : wpF Tryz.prog Tryz.f43 [(5, .int .i64 0), (8, .bool false), (9, .int .i64 0)] [(6, [8], [0, 1, 5, 6])] [(2, [5], [0, 1]), (7, [8, 9], [0, 1, 5, 6])] [20] [.slice l.p l.n l.c, .slice a.p a.n a.c] H R = F_ref21_needed R l a H := by kernel_rfl

theorem F_ref21_needed_ok {R : Value → Heap → Prop} (l : Sl) (a : Sl) {H : Heap} (h : F_ref21_needed R l a H) : CallsH Tryz.prog n_ref21_needed #[.slice l.p l.n l.c, .slice a.p a.n a.c] H R :=
  wpF_ok Tryz.func43 (F_ref21_needed_eq R l a H) h

/-! ### 44: platformfw/platformfwref21.op -/

def F_ref21_op (R : Value → Heap → Prop) (f : Int) (offset : Int) (width : Int) (v : Int) (H : Heap) : Prop :=
  letH (H.push (.cells #[.int .i64 (0 : Int), .int .i64 (0 : Int), .int .i64 (0 : Int), .bool false, .int .u64 (0 : Int)] t_api_ConfigOp (0, 0))) (fun H1 : Heap =>
  okRow H1 (⟨H.size, 0, none⟩ : Addr) 5 ∧ (
  letH (wrs H1 (⟨H.size, 0, none⟩ : Addr) [.int .i64 f, .int .i64 offset, .int .i64 width, .bool true, .int .u64 v]) (fun H2 : Heap =>
  ∃ r : Int, rd H2 (⟨H.size, 0, none⟩ : Addr) = some (.int .i64 r) ∧ ∃ r1 : Int, rd H2 ((⟨H.size, 0, none⟩ : Addr).add 1) = some (.int .i64 r1) ∧ ∃ r2 : Int, rd H2 ((⟨H.size, 0, none⟩ : Addr).add 2) = some (.int .i64 r2) ∧ ∃ r3 : Bool, rd H2 ((⟨H.size, 0, none⟩ : Addr).add 3) = some (.bool r3) ∧ ∃ r4 : Int, rd H2 ((⟨H.size, 0, none⟩ : Addr).add 4) = some (.int .u64 r4) ∧ (
  R (.agg #[.int .i64 r, .int .i64 r1, .int .i64 r2, .bool r3, .int .u64 r4]) H2))))

theorem F_ref21_op_eq (R : Value → Heap → Prop) (f : Int) (offset : Int) (width : Int) (v : Int) (H : Heap) : wpF Tryz.prog Tryz.f44 [] [] [] [20] [.int .i64 f, .int .i64 offset, .int .i64 width, .int .u64 v] H R = F_ref21_op R f offset width v H := by kernel_rfl

theorem F_ref21_op_ok {R : Value → Heap → Prop} (f : Int) (offset : Int) (width : Int) (v : Int) {H : Heap} (h : F_ref21_op R f offset width v H) : CallsH Tryz.prog n_ref21_op #[.int .i64 f, .int .i64 offset, .int .i64 width, .int .u64 v] H R :=
  wpF_ok Tryz.func44 (F_ref21_op_eq R f offset width v H) h

/-! ### 45: platformfw/platformfwref21.windows -/

def F_ref21_windows_k1 (l : Sl) (i : Int) (I_ : Sl → Int → Heap → Prop) (M_ : Sl → Int → Heap → Nat) (out : Sl) (classv : Int) (H1 : Heap) (first1 : Int) (last1 : Int) (H4 : Heap) : Prop :=
  iteB (classv == (0 : Int)) (
  0 ≤ (8 : Int) ∧ (
  CallsH Tryz.prog n_ref21_op #[.int .i64 i, .int .i64 (28 : Int), .int .i64 (1 : Int), .int .u64 (bitsAnd .u64 (first1.fdiv (2 ^ (min (8 : Int).toNat IntKind.u64.bits))) (240 : Int))] H4 (fun v2 H5 =>
  ∃ x8 : Int, ∃ x9 : Int, ∃ x10 : Int, ∃ x11 : Bool, ∃ x12 : Int, v2 = .agg #[.int .i64 x8, .int .i64 x9, .int .i64 x10, .bool x11, .int .u64 x12] ∧ (
  0 ≤ (8 : Int) ∧ (
  CallsH Tryz.prog n_ref21_op #[.int .i64 i, .int .i64 (29 : Int), .int .i64 (1 : Int), .int .u64 (bitsAnd .u64 (last1.fdiv (2 ^ (min (8 : Int).toNat IntKind.u64.bits))) (240 : Int))] H5 (fun v3 H6 =>
  ∃ x13 : Int, ∃ x14 : Int, ∃ x15 : Int, ∃ x16 : Bool, ∃ x17 : Int, v3 = .agg #[.int .i64 x13, .int .i64 x14, .int .i64 x15, .bool x16, .int .u64 x17] ∧ (
  letH (H6.push (.cells #[.int .i64 x8, .int .i64 x9, .int .i64 x10, .bool x11, .int .u64 x12, .int .i64 x13, .int .i64 x14, .int .i64 x15, .bool x16, .int .u64 x17] t_api_ConfigOp (0, 0))) (fun H7 : Heap =>
  runH Tryz.prog (Builtin.append_ #[t_sl_api_ConfigOp, t_sl_api_ConfigOp] t_sl_api_ConfigOp #[.slice out.p out.n out.c, .slice (some (⟨H6.size, 0, none⟩ : Addr)) 2 2]) H7 (fun v4 H8 =>
  ∃ out1 : Sl, v4 = .slice out1.p out1.n out1.c ∧ (
  letV (IntKind.i64.wrap (classv + (1 : Int))) (fun classv1 : Int =>
  I_ out1 classv1 H8 ∧ M_ out1 classv1 H8 < M_ out classv H1))))))))))) (
  iteB (classv == (1 : Int)) (
  0 ≤ (16 : Int) ∧ (
  CallsH Tryz.prog n_ref21_op #[.int .i64 i, .int .i64 (32 : Int), .int .i64 (2 : Int), .int .u64 (bitsAnd .u64 (first1.fdiv (2 ^ (min (16 : Int).toNat IntKind.u64.bits))) (65520 : Int))] H4 (fun v5 H9 =>
  ∃ x18 : Int, ∃ x19 : Int, ∃ x20 : Int, ∃ x21 : Bool, ∃ x22 : Int, v5 = .agg #[.int .i64 x18, .int .i64 x19, .int .i64 x20, .bool x21, .int .u64 x22] ∧ (
  0 ≤ (16 : Int) ∧ (
  CallsH Tryz.prog n_ref21_op #[.int .i64 i, .int .i64 (34 : Int), .int .i64 (2 : Int), .int .u64 (bitsAnd .u64 (last1.fdiv (2 ^ (min (16 : Int).toNat IntKind.u64.bits))) (65520 : Int))] H9 (fun v6 H10 =>
  ∃ x23 : Int, ∃ x24 : Int, ∃ x25 : Int, ∃ x26 : Bool, ∃ x27 : Int, v6 = .agg #[.int .i64 x23, .int .i64 x24, .int .i64 x25, .bool x26, .int .u64 x27] ∧ (
  letH (H10.push (.cells #[.int .i64 x18, .int .i64 x19, .int .i64 x20, .bool x21, .int .u64 x22, .int .i64 x23, .int .i64 x24, .int .i64 x25, .bool x26, .int .u64 x27] t_api_ConfigOp (0, 0))) (fun H11 : Heap =>
  runH Tryz.prog (Builtin.append_ #[t_sl_api_ConfigOp, t_sl_api_ConfigOp] t_sl_api_ConfigOp #[.slice out.p out.n out.c, .slice (some (⟨H10.size, 0, none⟩ : Addr)) 2 2]) H11 (fun v7 H12 =>
  ∃ out2 : Sl, v7 = .slice out2.p out2.n out2.c ∧ (
  letV (IntKind.i64.wrap (classv + (1 : Int))) (fun classv2 : Int =>
  I_ out2 classv2 H12 ∧ M_ out2 classv2 H12 < M_ out classv H1))))))))))) (
  0 ≤ i ∧ i < (l.n : Int) ∧ (unSome l.p (fun a4 =>
  ∃ x28 : Bool, rd H4 ((a4.add (i.toNat * 11)).add 5) = some (.bool x28) ∧ (
  iteB x28 (
  0 ≤ (16 : Int) ∧ (
  CallsH Tryz.prog n_ref21_op #[.int .i64 i, .int .i64 (36 : Int), .int .i64 (2 : Int), .int .u64 (bitsAnd .u64 (first1.fdiv (2 ^ (min (16 : Int).toNat IntKind.u64.bits))) (65520 : Int))] H4 (fun v8 H13 =>
  ∃ x29 : Int, ∃ x30 : Int, ∃ x31 : Int, ∃ x32 : Bool, ∃ x33 : Int, v8 = .agg #[.int .i64 x29, .int .i64 x30, .int .i64 x31, .bool x32, .int .u64 x33] ∧ (
  0 ≤ (16 : Int) ∧ (
  CallsH Tryz.prog n_ref21_op #[.int .i64 i, .int .i64 (38 : Int), .int .i64 (2 : Int), .int .u64 (bitsAnd .u64 (last1.fdiv (2 ^ (min (16 : Int).toNat IntKind.u64.bits))) (65520 : Int))] H13 (fun v9 H14 =>
  ∃ x34 : Int, ∃ x35 : Int, ∃ x36 : Int, ∃ x37 : Bool, ∃ x38 : Int, v9 = .agg #[.int .i64 x34, .int .i64 x35, .int .i64 x36, .bool x37, .int .u64 x38] ∧ (
  0 ≤ (32 : Int) ∧ (
  CallsH Tryz.prog n_ref21_op #[.int .i64 i, .int .i64 (40 : Int), .int .i64 (4 : Int), .int .u64 (first1.fdiv (2 ^ (min (32 : Int).toNat IntKind.u64.bits)))] H14 (fun v10 H15 =>
  ∃ x39 : Int, ∃ x40 : Int, ∃ x41 : Int, ∃ x42 : Bool, ∃ x43 : Int, v10 = .agg #[.int .i64 x39, .int .i64 x40, .int .i64 x41, .bool x42, .int .u64 x43] ∧ (
  0 ≤ (32 : Int) ∧ (
  CallsH Tryz.prog n_ref21_op #[.int .i64 i, .int .i64 (44 : Int), .int .i64 (4 : Int), .int .u64 (last1.fdiv (2 ^ (min (32 : Int).toNat IntKind.u64.bits)))] H15 (fun v11 H16 =>
  ∃ x44 : Int, ∃ x45 : Int, ∃ x46 : Int, ∃ x47 : Bool, ∃ x48 : Int, v11 = .agg #[.int .i64 x44, .int .i64 x45, .int .i64 x46, .bool x47, .int .u64 x48] ∧ (
  letH (H16.push (.cells #[.int .i64 x29, .int .i64 x30, .int .i64 x31, .bool x32, .int .u64 x33, .int .i64 x34, .int .i64 x35, .int .i64 x36, .bool x37, .int .u64 x38, .int .i64 x39, .int .i64 x40, .int .i64 x41, .bool x42, .int .u64 x43, .int .i64 x44, .int .i64 x45, .int .i64 x46, .bool x47, .int .u64 x48] t_api_ConfigOp (0, 0))) (fun H17 : Heap =>
  runH Tryz.prog (Builtin.append_ #[t_sl_api_ConfigOp, t_sl_api_ConfigOp] t_sl_api_ConfigOp #[.slice out.p out.n out.c, .slice (some (⟨H16.size, 0, none⟩ : Addr)) 4 4]) H17 (fun v12 H18 =>
  ∃ out3 : Sl, v12 = .slice out3.p out3.n out3.c ∧ (
  letV (IntKind.i64.wrap (classv + (1 : Int))) (fun classv3 : Int =>
  I_ out3 classv3 H18 ∧ M_ out3 classv3 H18 < M_ out classv H1))))))))))))))))) (
  letV (IntKind.i64.wrap (classv + (1 : Int))) (fun classv4 : Int =>
  I_ out classv4 H4 ∧ M_ out classv4 H4 < M_ out classv H1)))))))

def F_ref21_windows_r2 (R : Value → Heap → Prop) (l : Sl) (a : Sl) (i : Int) (I_ : Sl → Int → Heap → Prop) (M_ : Sl → Int → Heap → Nat) (out : Sl) (classv : Int) (H1 : Heap) : Prop :=
  iteB (decide (classv < (3 : Int))) (
  ∃ J_ : Int → Int → Heap → Prop, (
  CallsH Tryz.prog n_ref21_at #[.slice a.p a.n a.c, .int .i64 i, .int .i64 (IntKind.i64.wrap ((-1 : Int) - classv))] H1 (fun v H2 =>
  ∃ w : Int, v = .int .i64 w ∧ (
  iteB (decide (w ≥ (0 : Int))) (
  0 ≤ w ∧ w < (a.n : Int) ∧ (unSome a.p (fun a1 =>
  ∃ first : Int, rd H2 ((a1.add (w.toNat * 5)).add 4) = some (.int .u64 first) ∧ (
  0 ≤ w ∧ w < (a.n : Int) ∧ (unSome a.p (fun a2 =>
  ∃ x : Int, rd H2 ((a2.add (w.toNat * 5)).add 4) = some (.int .u64 x) ∧ (
  0 ≤ w ∧ w < (a.n : Int) ∧ (unSome a.p (fun a3 =>
  ∃ x1 : Int, rd H2 (a3.add (w.toNat * 5)) = some (.int .i64 x1) ∧ ∃ x2 : Int, rd H2 ((a3.add (w.toNat * 5)).add 1) = some (.int .i64 x2) ∧ ∃ x3 : Int, rd H2 ((a3.add (w.toNat * 5)).add 2) = some (.int .i64 x3) ∧ ∃ x4 : Int, rd H2 ((a3.add (w.toNat * 5)).add 3) = some (.int .i64 x4) ∧ ∃ x5 : Int, rd H2 ((a3.add (w.toNat * 5)).add 4) = some (.int .u64 x5) ∧ (
  CallsH Tryz.prog n_ref21_span #[.agg #[.int .i64 x1, .int .i64 x2, .int .i64 x3, .int .i64 x4, .int .u64 x5]] H2 (fun v1 H3 =>
  ∃ x6 : Int, ∃ x7 : Int, v1 = .agg #[.int .u64 x6, .int .u64 x7] ∧ (
  Keeps H2 H3 [(((a1.add (w.toNat * 5)).add 4), 1), (((a2.add (w.toNat * 5)).add 4), 1)] ∧ (
  letV (IntKind.u64.wrap ((IntKind.u64.wrap (x + x7)) - (1 : Int))) (fun last : Int =>
  J_ first last H3)))))))))))))) (
  J_ (18446744073709551615 : Int) (0 : Int) H2)))) ∧ (∀ first1 : Int, ∀ last1 : Int, ∀ H4 : Heap, J_ first1 last1 H4 → F_ref21_windows_k1 l i I_ M_ out classv H1 first1 last1 H4)) (
  R (.slice out.p out.n out.c) H1)

def F_ref21_windows (R : Value → Heap → Prop) (l : Sl) (a : Sl) (i : Int) (H : Heap) : Prop :=
  ∃ I_ : Sl → Int → Heap → Prop, ∃ M_ : Sl → Int → Heap → Nat, I_ (Sl.mk none 0 0) (0 : Int) H ∧ (∀ out : Sl, ∀ classv : Int, ∀ H1 : Heap, I_ out classv H1 → F_ref21_windows_r2 R l a i I_ M_ out classv H1)

theorem F_ref21_windows_eq (R : Value → Heap → Prop) (l : Sl) (a : Sl) (i : Int) (H : Heap) : wpF Tryz.prog Tryz.f45 [(7, .slice none 0 0), (8, .int .i64 0), (9, .int .u64 0), (10, .int .u64 0)] [(9, [9, 10], [0, 1, 2, 7, 8])] [(3, [7, 8], [0, 1, 2])] [20] [.slice l.p l.n l.c, .slice a.p a.n a.c, .int .i64 i] H R = F_ref21_windows R l a i H := by kernel_rfl

theorem F_ref21_windows_ok {R : Value → Heap → Prop} (l : Sl) (a : Sl) (i : Int) {H : Heap} (h : F_ref21_windows R l a i H) : CallsH Tryz.prog n_ref21_windows #[.slice l.p l.n l.c, .slice a.p a.n a.c, .int .i64 i] H R :=
  wpF_ok Tryz.func45 (F_ref21_windows_eq R l a i H) h

/-! ### 46: platformfw/pciconf.Valid -/

def F_pciconf_Valid_r1 (R : Value → Heap → Prop) (H : Heap) (x23 : Sl) (I_ : Int → Heap → Prop) (M_ : Int → Heap → Nat) (x24 : Int) (H5 : Heap) : Prop :=
  iteB (decide (x24 < (x23.n : Int))) (
  ∃ x25 : Sl, rd H5 ((⟨H.size, 0, none⟩ : Addr).add 10) = some (.slice x25.p x25.n x25.c) ∧ (
  CallsH Tryz.prog n_pciconf_validBar #[.slice x25.p x25.n x25.c, .int .i64 x24] H5 (fun v1 H6 =>
  ∃ x26 : Bool, v1 = .bool x26 ∧ (
  iteB (!x26) (
  R (.bool false) H6) (
  I_ (IntKind.i64.wrap (x24 + (1 : Int))) H6 ∧ M_ (IntKind.i64.wrap (x24 + (1 : Int))) H6 < M_ x24 H5))))) (
  R (.bool true) H5)

def F_pciconf_Valid_k2 (R : Value → Heap → Prop) (H : Heap) (H3 : Heap) : Prop :=
  ∃ x20 : Sl, rd H3 ((⟨H.size, 0, none⟩ : Addr).add 10) = some (.slice x20.p x20.n x20.c) ∧ (
  ∃ x21 : Bool, rd H3 ((⟨H.size, 0, none⟩ : Addr).add 4) = some (.bool x21) ∧ (
  CallsH Tryz.prog n_pciconf_registers #[.bool x21] H3 (fun v H4 =>
  ∃ x22 : Int, v = .int .i64 x22 ∧ (
  Keeps H3 H4 [(((⟨H.size, 0, none⟩ : Addr).add 10), 1)] ∧ (
  iteB (decide ((x20.n : Int) > x22)) (
  R (.bool false) H4) (
  ∃ x23 : Sl, rd H4 ((⟨H.size, 0, none⟩ : Addr).add 10) = some (.slice x23.p x23.n x23.c) ∧ (
  ∃ I_ : Int → Heap → Prop, ∃ M_ : Int → Heap → Nat, I_ (0 : Int) H4 ∧ (∀ x24 : Int, ∀ H5 : Heap, I_ x24 H5 → F_pciconf_Valid_r1 R H x23 I_ M_ x24 H5))))))))

def F_pciconf_Valid_k3 (R : Value → Heap → Prop) (H : Heap) (H2 : Heap) : Prop :=
  ∃ J_1 : Heap → Prop, (
  ∃ x17 : Bool, rd H2 ((⟨H.size, 0, none⟩ : Addr).add 4) = some (.bool x17) ∧ (
  iteB (!x17) (
  ∃ x18 : Bool, rd H2 ((⟨H.size, 0, none⟩ : Addr).add 5) = some (.bool x18) ∧ (
  iteB x18 (
  R (.bool false) H2) (
  ∃ x19 : Bool, rd H2 ((⟨H.size, 0, none⟩ : Addr).add 6) = some (.bool x19) ∧ (
  iteB x19 (
  R (.bool false) H2) (
  J_1 H2))))) (
  J_1 H2))) ∧ (∀ H3 : Heap, J_1 H3 → F_pciconf_Valid_k2 R H H3)

def F_pciconf_Valid (R : Value → Heap → Prop) (f_0 : Int) (f_1 : Int) (f_2 : Int) (f_3 : Int) (f_4 : Bool) (f_5 : Bool) (f_6 : Bool) (f_7 : Int) (f_8 : Int) (f_9 : Int) (f_10 : Sl) (H : Heap) : Prop :=
  letH (H.push (.cells #[.int .i64 f_0, .int .i64 f_1, .int .i64 f_2, .int .i64 f_3, .bool f_4, .bool f_5, .bool f_6, .int .i64 f_7, .int .i64 f_8, .int .i64 f_9, .slice f_10.p f_10.n f_10.c] t_api_Function (0, 0))) (fun H1 : Heap =>
  ∃ x : Int, rd H1 ((⟨H.size, 0, none⟩ : Addr).add 2) = some (.int .i64 x) ∧ (
  iteB (decide (x < (1 : Int))) (
  R (.bool false) H1) (
  ∃ x1 : Int, rd H1 ((⟨H.size, 0, none⟩ : Addr).add 2) = some (.int .i64 x1) ∧ (
  iteB (decide (x1 > (65534 : Int))) (
  R (.bool false) H1) (
  ∃ x2 : Int, rd H1 ((⟨H.size, 0, none⟩ : Addr).add 3) = some (.int .i64 x2) ∧ (
  iteB (decide (x2 < (0 : Int))) (
  R (.bool false) H1) (
  ∃ x3 : Int, rd H1 ((⟨H.size, 0, none⟩ : Addr).add 3) = some (.int .i64 x3) ∧ (
  iteB (decide (x3 > (65535 : Int))) (
  R (.bool false) H1) (
  ∃ x4 : Int, rd H1 ((⟨H.size, 0, none⟩ : Addr).add 1) = some (.int .i64 x4) ∧ (
  iteB (decide (x4 < (0 : Int))) (
  R (.bool false) H1) (
  ∃ x5 : Int, rd H1 ((⟨H.size, 0, none⟩ : Addr).add 1) = some (.int .i64 x5) ∧ (
  iteB (decide (x5 > (31 : Int))) (
  R (.bool false) H1) (
  ∃ x6 : Int, rd H1 ((⟨H.size, 0, none⟩ : Addr).add 8) = some (.int .i64 x6) ∧ (
  iteB (decide (x6 < (0 : Int))) (
  R (.bool false) H1) (
  ∃ x7 : Int, rd H1 ((⟨H.size, 0, none⟩ : Addr).add 8) = some (.int .i64 x7) ∧ (
  iteB (decide (x7 > (4 : Int))) (
  R (.bool false) H1) (
  ∃ x8 : Int, rd H1 ((⟨H.size, 0, none⟩ : Addr).add 9) = some (.int .i64 x8) ∧ (
  iteB (decide (x8 < (0 : Int))) (
  R (.bool false) H1) (
  ∃ x9 : Int, rd H1 ((⟨H.size, 0, none⟩ : Addr).add 9) = some (.int .i64 x9) ∧ (
  iteB (decide (x9 > (32 : Int))) (
  R (.bool false) H1) (
  ∃ x10 : Int, rd H1 ((⟨H.size, 0, none⟩ : Addr).add 9) = some (.int .i64 x10) ∧ (
  ∃ x11 : Int, rd H1 ((⟨H.size, 0, none⟩ : Addr).add 9) = some (.int .i64 x11) ∧ (
  iteB ((bitsAnd .i64 x10 (IntKind.i64.wrap (x11 - (1 : Int)))) != (0 : Int)) (
  R (.bool false) H1) (
  ∃ J_ : Heap → Prop, (
  ∃ x12 : Int, rd H1 ((⟨H.size, 0, none⟩ : Addr).add 7) = some (.int .i64 x12) ∧ (
  iteB (decide (x12 < (0 : Int))) (
  R (.bool false) H1) (
  ∃ x13 : Int, rd H1 ((⟨H.size, 0, none⟩ : Addr).add 7) = some (.int .i64 x13) ∧ (
  iteB (decide (x13 > (32 : Int))) (
  R (.bool false) H1) (
  ∃ x14 : Int, rd H1 ((⟨H.size, 0, none⟩ : Addr).add 7) = some (.int .i64 x14) ∧ (
  iteB (decide (x14 > (0 : Int))) (
  ∃ x15 : Bool, rd H1 ((⟨H.size, 0, none⟩ : Addr).add 4) = some (.bool x15) ∧ (
  iteB x15 (
  ∃ x16 : Bool, rd H1 ((⟨H.size, 0, none⟩ : Addr).add 6) = some (.bool x16) ∧ (
  iteB (!x16) (
  R (.bool false) H1) (
  J_ H1))) (
  R (.bool false) H1))) (
  J_ H1))))))) ∧ (∀ H2 : Heap, J_ H2 → F_pciconf_Valid_k3 R H H2)))))))))))))))))))))))))

theorem F_pciconf_Valid_eq (R : Value → Heap → Prop) (f_0 : Int) (f_1 : Int) (f_2 : Int) (f_3 : Int) (f_4 : Bool) (f_5 : Bool) (f_6 : Bool) (f_7 : Int) (f_8 : Int) (f_9 : Int) (f_10 : Sl) (H : Heap) : wpF Tryz.prog Tryz.f46 [(100, .int .i64 0)] [(9, [], [1]), (11, [], [1])] [(14, [100], [1, 99])] [20] [.agg #[.int .i64 f_0, .int .i64 f_1, .int .i64 f_2, .int .i64 f_3, .bool f_4, .bool f_5, .bool f_6, .int .i64 f_7, .int .i64 f_8, .int .i64 f_9, .slice f_10.p f_10.n f_10.c]] H R = F_pciconf_Valid R f_0 f_1 f_2 f_3 f_4 f_5 f_6 f_7 f_8 f_9 f_10 H := by kernel_rfl

theorem F_pciconf_Valid_ok {R : Value → Heap → Prop} (f_0 : Int) (f_1 : Int) (f_2 : Int) (f_3 : Int) (f_4 : Bool) (f_5 : Bool) (f_6 : Bool) (f_7 : Int) (f_8 : Int) (f_9 : Int) (f_10 : Sl) {H : Heap} (h : F_pciconf_Valid R f_0 f_1 f_2 f_3 f_4 f_5 f_6 f_7 f_8 f_9 f_10 H) : CallsH Tryz.prog n_pciconf_Valid #[.agg #[.int .i64 f_0, .int .i64 f_1, .int .i64 f_2, .int .i64 f_3, .bool f_4, .bool f_5, .bool f_6, .int .i64 f_7, .int .i64 f_8, .int .i64 f_9, .slice f_10.p f_10.n f_10.c]] H R :=
  wpF_ok Tryz.func46 (F_pciconf_Valid_eq R f_0 f_1 f_2 f_3 f_4 f_5 f_6 f_7 f_8 f_9 f_10 H) h

/-! ### 47: platformfw/pciconf.registers -/

def F_pciconf_registers (R : Value → Heap → Prop) (bridge : Bool) (H : Heap) : Prop :=
  iteB bridge (
  R (.int .i64 (2 : Int)) H) (
  R (.int .i64 (6 : Int)) H)

theorem F_pciconf_registers_eq (R : Value → Heap → Prop) (bridge : Bool) (H : Heap) : wpF Tryz.prog Tryz.f47 [] [] [] [20] [.bool bridge] H R = F_pciconf_registers R bridge H := by kernel_rfl

theorem F_pciconf_registers_ok {R : Value → Heap → Prop} (bridge : Bool) {H : Heap} (h : F_pciconf_registers R bridge H) : CallsH Tryz.prog n_pciconf_registers #[.bool bridge] H R :=
  wpF_ok Tryz.func47 (F_pciconf_registers_eq R bridge H) h

/-! ### 48: (*platformfw/pciconf.Device).define -/

def F_pciconf_Device_define_r1 (R : Value → Heap → Prop) (d : Addr) (offset : Int) (width : Int) (v : Int) (writable : Int) (I_ : Int → Heap → Prop) (M_ : Int → Heap → Nat) (x : Int) (H1 : Heap) : Prop :=
  iteB (decide (x < width)) (
  0 ≤ (IntKind.i64.wrap ((8 : Int) * x)) ∧ (
  0 ≤ (IntKind.i64.wrap (offset + x)) ∧ (IntKind.i64.wrap (offset + x)) < ((256 : Nat) : Int) ∧ (okRow H1 (d.add ((IntKind.i64.wrap (offset + x)).toNat * 1)) 1 ∧ (
  letH (wrs H1 (d.add ((IntKind.i64.wrap (offset + x)).toNat * 1)) [.int .u8 (IntKind.u8.wrap (v.fdiv (2 ^ (min (IntKind.i64.wrap ((8 : Int) * x)).toNat IntKind.u64.bits))))]) (fun H2 : Heap =>
  0 ≤ (IntKind.i64.wrap ((8 : Int) * x)) ∧ (
  0 ≤ (IntKind.i64.wrap (offset + x)) ∧ (IntKind.i64.wrap (offset + x)) < ((256 : Nat) : Int) ∧ (okRow H2 ((d.add 256).add ((IntKind.i64.wrap (offset + x)).toNat * 1)) 1 ∧ (
  letH (wrs H2 ((d.add 256).add ((IntKind.i64.wrap (offset + x)).toNat * 1)) [.int .u8 (IntKind.u8.wrap (writable.fdiv (2 ^ (min (IntKind.i64.wrap ((8 : Int) * x)).toNat IntKind.u64.bits))))]) (fun H3 : Heap =>
  I_ (IntKind.i64.wrap (x + (1 : Int))) H3 ∧ M_ (IntKind.i64.wrap (x + (1 : Int))) H3 < M_ x H1))))))))) (
  R (.tuple #[]) H1)

def F_pciconf_Device_define (R : Value → Heap → Prop) (d : Addr) (offset : Int) (width : Int) (v : Int) (writable : Int) (H : Heap) : Prop :=
  ∃ I_ : Int → Heap → Prop, ∃ M_ : Int → Heap → Nat, I_ (0 : Int) H ∧ (∀ x : Int, ∀ H1 : Heap, I_ x H1 → F_pciconf_Device_define_r1 R d offset width v writable I_ M_ x H1)

theorem F_pciconf_Device_define_eq (R : Value → Heap → Prop) (d : Addr) (offset : Int) (width : Int) (v : Int) (writable : Int) (H : Heap) : wpF Tryz.prog Tryz.f48 [(12, .int .i64 0)] [] [(1, [12], [0, 1, 3, 4, 11])] [20] [.pointer (some d), .int .i64 offset, .int .i64 width, .int .u64 v, .int .u64 writable] H R = F_pciconf_Device_define R d offset width v writable H := by kernel_rfl

theorem F_pciconf_Device_define_ok {R : Value → Heap → Prop} (d : Addr) (offset : Int) (width : Int) (v : Int) (writable : Int) {H : Heap} (h : F_pciconf_Device_define R d offset width v writable H) : CallsH Tryz.prog n_pciconf_Device_define #[.pointer (some d), .int .i64 offset, .int .i64 width, .int .u64 v, .int .u64 writable] H R :=
  wpF_ok Tryz.func48 (F_pciconf_Device_define_eq R d offset width v writable H) h

/-! ### 49: (*platformfw/pciconf.Device).defineBar -/

def F_pciconf_Device_defineBar (R : Value → Heap → Prop) (d : Addr) (offset : Int) (bar_0 : Int) (bar_1 : Int) (H : Heap) : Prop :=
  letH (H.push (.cells #[.int .i64 bar_0, .int .i64 bar_1] t_api_Bar (0, 0))) (fun H1 : Heap =>
  ∃ x : Int, rd H1 ((⟨H.size, 0, none⟩ : Addr).add 1) = some (.int .i64 x) ∧ (
  0 ≤ x ∧ (
  letV (IntKind.u64.wrap ((18446744073709551615 : Int) * 2 ^ (min x.toNat IntKind.u64.bits))) (fun kept : Int =>
  ∃ x1 : Int, rd H1 (⟨H.size, 0, none⟩ : Addr) = some (.int .i64 x1) ∧ (
  iteB (x1 == (1 : Int)) (
  CallsH Tryz.prog n_pciconf_Device_define #[.pointer (some d), .int .i64 offset, .int .i64 (4 : Int), .int .u64 (1 : Int), .int .u64 kept] H1 (fun v H2 =>
  v = .tuple #[] ∧ (
  R (.tuple #[]) H2))) (
  iteB (x1 == (2 : Int)) (
  CallsH Tryz.prog n_pciconf_Device_define #[.pointer (some d), .int .i64 offset, .int .i64 (4 : Int), .int .u64 (0 : Int), .int .u64 kept] H1 (fun v1 H3 =>
  v1 = .tuple #[] ∧ (
  R (.tuple #[]) H3))) (
  iteB (x1 == (3 : Int)) (
  CallsH Tryz.prog n_pciconf_Device_define #[.pointer (some d), .int .i64 offset, .int .i64 (8 : Int), .int .u64 (4 : Int), .int .u64 kept] H1 (fun v2 H4 =>
  v2 = .tuple #[] ∧ (
  R (.tuple #[]) H4))) (
  iteB (x1 == (4 : Int)) (
  CallsH Tryz.prog n_pciconf_Device_define #[.pointer (some d), .int .i64 offset, .int .i64 (8 : Int), .int .u64 (12 : Int), .int .u64 kept] H1 (fun v3 H5 =>
  v3 = .tuple #[] ∧ (
  R (.tuple #[]) H5))) (
  R (.tuple #[]) H1)))))))))

theorem F_pciconf_Device_defineBar_eq (R : Value → Heap → Prop) (d : Addr) (offset : Int) (bar_0 : Int) (bar_1 : Int) (H : Heap) : wpF Tryz.prog Tryz.f49 [] [] [] [20] [.pointer (some d), .int .i64 offset, .agg #[.int .i64 bar_0, .int .i64 bar_1]] H R = F_pciconf_Device_defineBar R d offset bar_0 bar_1 H := by kernel_rfl

theorem F_pciconf_Device_defineBar_ok {R : Value → Heap → Prop} (d : Addr) (offset : Int) (bar_0 : Int) (bar_1 : Int) {H : Heap} (h : F_pciconf_Device_defineBar R d offset bar_0 bar_1 H) : CallsH Tryz.prog n_pciconf_Device_defineBar #[.pointer (some d), .int .i64 offset, .agg #[.int .i64 bar_0, .int .i64 bar_1]] H R :=
  wpF_ok Tryz.func49 (F_pciconf_Device_defineBar_eq R d offset bar_0 bar_1 H) h

/-! ### 50: (*platformfw/pciconf.Device).defineBridge -/

def F_pciconf_Device_defineBridge (R : Value → Heap → Prop) (d : Addr) (H : Heap) : Prop :=
  CallsH Tryz.prog n_pciconf_Device_define #[.pointer (some d), .int .i64 (14 : Int), .int .i64 (1 : Int), .int .u64 (1 : Int), .int .u64 (0 : Int)] H (fun v H1 =>
  v = .tuple #[] ∧ (
  CallsH Tryz.prog n_pciconf_Device_define #[.pointer (some d), .int .i64 (24 : Int), .int .i64 (3 : Int), .int .u64 (0 : Int), .int .u64 (16777215 : Int)] H1 (fun v1 H2 =>
  v1 = .tuple #[] ∧ (
  CallsH Tryz.prog n_pciconf_Device_define #[.pointer (some d), .int .i64 (28 : Int), .int .i64 (2 : Int), .int .u64 (0 : Int), .int .u64 (61680 : Int)] H2 (fun v2 H3 =>
  v2 = .tuple #[] ∧ (
  CallsH Tryz.prog n_pciconf_Device_define #[.pointer (some d), .int .i64 (32 : Int), .int .i64 (4 : Int), .int .u64 (0 : Int), .int .u64 (4293984240 : Int)] H3 (fun v3 H4 =>
  v3 = .tuple #[] ∧ (
  ∃ x : Bool, rd H4 (d.add 514) = some (.bool x) ∧ (
  iteB x (
  CallsH Tryz.prog n_pciconf_Device_define #[.pointer (some d), .int .i64 (36 : Int), .int .i64 (4 : Int), .int .u64 (65537 : Int), .int .u64 (4293984240 : Int)] H4 (fun v4 H5 =>
  v4 = .tuple #[] ∧ (
  CallsH Tryz.prog n_pciconf_Device_define #[.pointer (some d), .int .i64 (40 : Int), .int .i64 (8 : Int), .int .u64 (0 : Int), .int .u64 (18446744073709551615 : Int)] H5 (fun v5 H6 =>
  v5 = .tuple #[] ∧ (
  R (.tuple #[]) H6))))) (
  R (.tuple #[]) H4))))))))))

theorem F_pciconf_Device_defineBridge_eq (R : Value → Heap → Prop) (d : Addr) (H : Heap) : wpF Tryz.prog Tryz.f50 [] [] [] [20] [.pointer (some d)] H R = F_pciconf_Device_defineBridge R d H := by kernel_rfl

theorem F_pciconf_Device_defineBridge_ok {R : Value → Heap → Prop} (d : Addr) {H : Heap} (h : F_pciconf_Device_defineBridge R d H) : CallsH Tryz.prog n_pciconf_Device_defineBridge #[.pointer (some d)] H R :=
  wpF_ok Tryz.func50 (F_pciconf_Device_defineBridge_eq R d H) h

/-! ### 51: platformfw/pciconf.wellFormed -/

def F_pciconf_wellFormed_k1 (R : Value → Heap → Prop) (offset : Int) (width : Int) (H1 : Heap) : Prop :=
  iteB (decide (offset ≥ (0 : Int))) (
  iteB (decide (offset < (256 : Int))) (
  width ≠ 0 ∧ (
  R (.bool ((offset.tmod width) == (0 : Int))) H1)) (
  R (.bool false) H1)) (
  R (.bool false) H1)

def F_pciconf_wellFormed (R : Value → Heap → Prop) (offset : Int) (width : Int) (H : Heap) : Prop :=
  ∃ J_ : Heap → Prop, (
  iteB (width != (1 : Int)) (
  iteB (width != (2 : Int)) (
  iteB (width != (4 : Int)) (
  R (.bool false) H) (
  J_ H)) (
  J_ H)) (
  J_ H)) ∧ (∀ H1 : Heap, J_ H1 → F_pciconf_wellFormed_k1 R offset width H1)

theorem F_pciconf_wellFormed_eq (R : Value → Heap → Prop) (offset : Int) (width : Int) (H : Heap) : wpF Tryz.prog Tryz.f51 [] [(3, [], [0, 1])] [] [20] [.int .i64 offset, .int .i64 width] H R = F_pciconf_wellFormed R offset width H := by kernel_rfl

theorem F_pciconf_wellFormed_ok {R : Value → Heap → Prop} (offset : Int) (width : Int) {H : Heap} (h : F_pciconf_wellFormed R offset width H) : CallsH Tryz.prog n_pciconf_wellFormed #[.int .i64 offset, .int .i64 width] H R :=
  wpF_ok Tryz.func51 (F_pciconf_wellFormed_eq R offset width H) h

/-! ### 52: (*platformfw/pciconf.Device).number -/

def F_pciconf_Device_number_r1 (R : Value → Heap → Prop) (d : Addr) (offset : Int) (width : Int) (I_ : Int → Int → Heap → Prop) (M_ : Int → Int → Heap → Nat) (v : Int) (x : Int) (H1 : Heap) : Prop :=
  iteB (decide (x < width)) (
  0 ≤ (IntKind.i64.wrap (offset + x)) ∧ (IntKind.i64.wrap (offset + x)) < ((256 : Nat) : Int) ∧ (∃ x1 : Int, rd H1 (d.add ((IntKind.i64.wrap (offset + x)).toNat * 1)) = some (.int .u8 x1) ∧ (
  0 ≤ (IntKind.i64.wrap ((8 : Int) * x)) ∧ (
  letV (bitsOr .u64 v (IntKind.u64.wrap ((IntKind.u64.wrap x1) * 2 ^ (min (IntKind.i64.wrap ((8 : Int) * x)).toNat IntKind.u64.bits)))) (fun v1 : Int =>
  I_ v1 (IntKind.i64.wrap (x + (1 : Int))) H1 ∧ M_ v1 (IntKind.i64.wrap (x + (1 : Int))) H1 < M_ v x H1))))) (
  R (.int .u64 v) H1)

def F_pciconf_Device_number (R : Value → Heap → Prop) (d : Addr) (offset : Int) (width : Int) (H : Heap) : Prop :=
  ∃ I_ : Int → Int → Heap → Prop, ∃ M_ : Int → Int → Heap → Nat, I_ (0 : Int) (0 : Int) H ∧ (∀ v : Int, ∀ x : Int, ∀ H1 : Heap, I_ v x H1 → F_pciconf_Device_number_r1 R d offset width I_ M_ v x H1)

theorem F_pciconf_Device_number_eq (R : Value → Heap → Prop) (d : Addr) (offset : Int) (width : Int) (H : Heap) : wpF Tryz.prog Tryz.f52 [(7, .int .u64 0), (10, .int .i64 0)] [] [(3, [7, 10], [0, 1, 9])] [20] [.pointer (some d), .int .i64 offset, .int .i64 width] H R = F_pciconf_Device_number R d offset width H := by kernel_rfl

theorem F_pciconf_Device_number_ok {R : Value → Heap → Prop} (d : Addr) (offset : Int) (width : Int) {H : Heap} (h : F_pciconf_Device_number R d offset width H) : CallsH Tryz.prog n_pciconf_Device_number #[.pointer (some d), .int .i64 offset, .int .i64 width] H R :=
  wpF_ok Tryz.func52 (F_pciconf_Device_number_eq R d offset width H) h

/-! ### 53: (*platformfw/pciconf.Device).enabled -/

def F_pciconf_Device_enabled (R : Value → Heap → Prop) (d : Addr) (classv : Int) (H : Heap) : Prop :=
  iteB (classv == (0 : Int)) (
  0 ≤ (4 : Int) ∧ (4 : Int) < ((256 : Nat) : Int) ∧ (∃ x : Int, rd H (d.add ((4 : Int).toNat * 1)) = some (.int .u8 x) ∧ (
  R (.bool ((bitsAnd .u8 x (1 : Int)) != (0 : Int))) H))) (
  0 ≤ (4 : Int) ∧ (4 : Int) < ((256 : Nat) : Int) ∧ (∃ x1 : Int, rd H (d.add ((4 : Int).toNat * 1)) = some (.int .u8 x1) ∧ (
  R (.bool ((bitsAnd .u8 x1 (2 : Int)) != (0 : Int))) H)))

theorem F_pciconf_Device_enabled_eq (R : Value → Heap → Prop) (d : Addr) (classv : Int) (H : Heap) : wpF Tryz.prog Tryz.f53 [] [] [] [20] [.pointer (some d), .int .i64 classv] H R = F_pciconf_Device_enabled R d classv H := by kernel_rfl

theorem F_pciconf_Device_enabled_ok {R : Value → Heap → Prop} (d : Addr) (classv : Int) {H : Heap} (h : F_pciconf_Device_enabled R d classv H) : CallsH Tryz.prog n_pciconf_Device_enabled #[.pointer (some d), .int .i64 classv] H R :=
  wpF_ok Tryz.func53 (F_pciconf_Device_enabled_eq R d classv H) h

/-! ### 54: (*platformfw/pciconf.Device).appendWindow -/

def F_pciconf_Device_appendWindow (R : Value → Heap → Prop) (d : Addr) (l : Sl) (classv : Int) (first : Int) (last : Int) (H : Heap) : Prop :=
  iteB (decide (first > last)) (
  R (.slice l.p l.n l.c) H) (
  CallsH Tryz.prog n_pciconf_Device_enabled #[.pointer (some d), .int .i64 classv] H (fun v H1 =>
  ∃ x : Bool, v = .bool x ∧ (
  letH (H1.push (.cells #[.int .i64 (IntKind.i64.wrap ((-1 : Int) - classv)), .int .i64 classv, .int .u64 first, .int .u64 (IntKind.u64.wrap ((IntKind.u64.wrap (last - first)) + (1 : Int))), .bool x] t_api_Window (0, 0))) (fun H2 : Heap =>
  runH Tryz.prog (Builtin.append_ #[t_sl_api_Window, t_sl_api_Window] t_sl_api_Window #[.slice l.p l.n l.c, .slice (some (⟨H1.size, 0, none⟩ : Addr)) 1 1]) H2 (fun v1 H3 =>
  ∃ x1 : Sl, v1 = .slice x1.p x1.n x1.c ∧ (
  R (.slice x1.p x1.n x1.c) H3))))))

theorem F_pciconf_Device_appendWindow_eq (R : Value → Heap → Prop) (d : Addr) (l : Sl) (classv : Int) (first : Int) (last : Int) (H : Heap) : wpF Tryz.prog Tryz.f54 [] [] [] [20] [.pointer (some d), .slice l.p l.n l.c, .int .i64 classv, .int .u64 first, .int .u64 last] H R = F_pciconf_Device_appendWindow R d l classv first last H := by kernel_rfl

theorem F_pciconf_Device_appendWindow_ok {R : Value → Heap → Prop} (d : Addr) (l : Sl) (classv : Int) (first : Int) (last : Int) {H : Heap} (h : F_pciconf_Device_appendWindow R d l classv first last H) : CallsH Tryz.prog n_pciconf_Device_appendWindow #[.pointer (some d), .slice l.p l.n l.c, .int .i64 classv, .int .u64 first, .int .u64 last] H R :=
  wpF_ok Tryz.func54 (F_pciconf_Device_appendWindow_eq R d l classv first last H) h

/-! ### 55: platformfw/resources.registers -/

def F_resources_registers_r1 (R : Value → Heap → Prop) (l : Sl) (high : Bool) (function : Int) (x : Sl) (I_ : Sl → Int → Heap → Prop) (M_ : Sl → Int → Heap → Nat) (needs : Sl) (x1 : Int) (H1 : Heap) : Prop :=
  iteB (decide (x1 < (x.n : Int))) (
  0 ≤ x1 ∧ x1 < (x.n : Int) ∧ (unSome x.p (fun a1 =>
  ∃ x2 : Int, rd H1 (a1.add (x1.toNat * 2)) = some (.int .i64 x2) ∧ ∃ x3 : Int, rd H1 ((a1.add (x1.toNat * 2)).add 1) = some (.int .i64 x3) ∧ (
  letH (H1.push (.cells #[.int .i64 (0 : Int), .int .i64 (0 : Int)] t_api_Bar (0, 0))) (fun H2 : Heap =>
  okRow H2 (⟨H1.size, 0, none⟩ : Addr) 2 ∧ (
  letH (wrs H2 (⟨H1.size, 0, none⟩ : Addr) [.int .i64 x2, .int .i64 x3]) (fun H3 : Heap =>
  ∃ x4 : Int, rd H3 (⟨H1.size, 0, none⟩ : Addr) = some (.int .i64 x4) ∧ (
  iteB (x4 == (0 : Int)) (
  I_ needs (IntKind.i64.wrap (x1 + (1 : Int))) H3 ∧ M_ needs (IntKind.i64.wrap (x1 + (1 : Int))) H3 < M_ needs x1 H1) (
  ∃ x5 : Int, rd H3 (⟨H1.size, 0, none⟩ : Addr) = some (.int .i64 x5) ∧ (
  CallsH Tryz.prog n_resources_classOf #[.slice l.p l.n l.c, .bool high, .int .i64 function, .int .i64 x5] H3 (fun v H4 =>
  ∃ classv : Int, v = .int .i64 classv ∧ (
  ∃ x6 : Int, rd H4 ((⟨H1.size, 0, none⟩ : Addr).add 1) = some (.int .i64 x6) ∧ (
  letH (H4.push (.cells #[.int .i64 function, .int .i64 x1, .int .i64 classv, .int .i64 x6] t_api_Need (0, 0))) (fun H5 : Heap =>
  runH Tryz.prog (Builtin.append_ #[t_sl_api_Need, t_sl_api_Need] t_sl_api_Need #[.slice needs.p needs.n needs.c, .slice (some (⟨H4.size, 0, none⟩ : Addr)) 1 1]) H5 (fun v1 H6 =>
  ∃ needs1 : Sl, v1 = .slice needs1.p needs1.n needs1.c ∧ (
  I_ needs1 (IntKind.i64.wrap (x1 + (1 : Int))) H6 ∧ M_ needs1 (IntKind.i64.wrap (x1 + (1 : Int))) H6 < M_ needs x1 H1)))))))))))))))) (
  R (.slice needs.p needs.n needs.c) H1)

def F_resources_registers (R : Value → Heap → Prop) (l : Sl) (high : Bool) (function : Int) (H : Heap) : Prop :=
  0 ≤ function ∧ function < (l.n : Int) ∧ (unSome l.p (fun a =>
  ∃ x : Sl, rd H ((a.add (function.toNat * 11)).add 10) = some (.slice x.p x.n x.c) ∧ (
  ∃ I_ : Sl → Int → Heap → Prop, ∃ M_ : Sl → Int → Heap → Nat, I_ (Sl.mk none 0 0) (0 : Int) H ∧ (∀ needs : Sl, ∀ x1 : Int, ∀ H1 : Heap, I_ needs x1 H1 → F_resources_registers_r1 R l high function x I_ M_ needs x1 H1))))

theorem F_resources_registers_eq (R : Value → Heap → Prop) (l : Sl) (high : Bool) (function : Int) (H : Heap) : wpF Tryz.prog Tryz.f55 [(7, .slice none 0 0), (17, .int .i64 0)] [] [(3, [7, 17], [0, 1, 2, 15, 16])] [20] [.slice l.p l.n l.c, .bool high, .int .i64 function] H R = F_resources_registers R l high function H := by kernel_rfl

theorem F_resources_registers_ok {R : Value → Heap → Prop} (l : Sl) (high : Bool) (function : Int) {H : Heap} (h : F_resources_registers R l high function H) : CallsH Tryz.prog n_resources_registers #[.slice l.p l.n l.c, .bool high, .int .i64 function] H R :=
  wpF_ok Tryz.func55 (F_resources_registers_eq R l high function H) h

/-! ### 56: platformfw/resources.windows -/

def F_resources_windows_k1 (function : Int) (H1 : Heap) (x12 : Sl) (I_ : Sl → Int → Heap → Prop) (M_ : Sl → Int → Heap → Nat) (needs : Sl) (x15 : Int) (H4 : Heap) (H6 : Heap) : Prop :=
  ∃ x18 : Bool, rd H6 ((⟨H1.size, 0, none⟩ : Addr).add 6) = some (.bool x18) ∧ (
  CallsH Tryz.prog n_resources_WindowSize #[.slice x12.p x12.n x12.c, .int .i64 x15, .bool x18] H6 (fun v1 H7 =>
  ∃ x19 : Int, ∃ x20 : Bool, v1 = .tuple #[.int .i64 x19, .bool x20] ∧ (
  iteB x20 (
  letH (H7.push (.cells #[.int .i64 function, .int .i64 (IntKind.i64.wrap ((-1 : Int) - x15)), .int .i64 x15, .int .i64 x19] t_api_Need (0, 0))) (fun H8 : Heap =>
  runH Tryz.prog (Builtin.append_ #[t_sl_api_Need, t_sl_api_Need] t_sl_api_Need #[.slice needs.p needs.n needs.c, .slice (some (⟨H7.size, 0, none⟩ : Addr)) 1 1]) H8 (fun v2 H9 =>
  ∃ needs1 : Sl, v2 = .slice needs1.p needs1.n needs1.c ∧ (
  I_ needs1 (IntKind.i64.wrap (x15 + (1 : Int))) H9 ∧ M_ needs1 (IntKind.i64.wrap (x15 + (1 : Int))) H9 < M_ needs x15 H4)))) (
  I_ needs (IntKind.i64.wrap (x15 + (1 : Int))) H7 ∧ M_ needs (IntKind.i64.wrap (x15 + (1 : Int))) H7 < M_ needs x15 H4))))

def F_resources_windows_k2 (function : Int) (H1 : Heap) (x13 : Sl) (I_ : Sl → Int → Heap → Prop) (M_ : Sl → Int → Heap → Nat) (needs : Sl) (x15 : Int) (H4 : Heap) (H11 : Heap) : Prop :=
  ∃ x23 : Bool, rd H11 ((⟨H1.size, 0, none⟩ : Addr).add 6) = some (.bool x23) ∧ (
  CallsH Tryz.prog n_resources_WindowSize #[.slice x13.p x13.n x13.c, .int .i64 x15, .bool x23] H11 (fun v4 H12 =>
  ∃ x24 : Int, ∃ x25 : Bool, v4 = .tuple #[.int .i64 x24, .bool x25] ∧ (
  iteB x25 (
  letH (H12.push (.cells #[.int .i64 function, .int .i64 (IntKind.i64.wrap ((-1 : Int) - x15)), .int .i64 x15, .int .i64 x24] t_api_Need (0, 0))) (fun H13 : Heap =>
  runH Tryz.prog (Builtin.append_ #[t_sl_api_Need, t_sl_api_Need] t_sl_api_Need #[.slice needs.p needs.n needs.c, .slice (some (⟨H12.size, 0, none⟩ : Addr)) 1 1]) H13 (fun v5 H14 =>
  ∃ needs2 : Sl, v5 = .slice needs2.p needs2.n needs2.c ∧ (
  I_ needs2 (IntKind.i64.wrap (x15 + (1 : Int))) H14 ∧ M_ needs2 (IntKind.i64.wrap (x15 + (1 : Int))) H14 < M_ needs x15 H4)))) (
  I_ needs (IntKind.i64.wrap (x15 + (1 : Int))) H12 ∧ M_ needs (IntKind.i64.wrap (x15 + (1 : Int))) H12 < M_ needs x15 H4))))

def F_resources_windows_k3 (function : Int) (H1 : Heap) (x14 : Sl) (I_ : Sl → Int → Heap → Prop) (M_ : Sl → Int → Heap → Nat) (needs : Sl) (x15 : Int) (H4 : Heap) (H16 : Heap) : Prop :=
  ∃ x28 : Bool, rd H16 ((⟨H1.size, 0, none⟩ : Addr).add 6) = some (.bool x28) ∧ (
  CallsH Tryz.prog n_resources_WindowSize #[.slice x14.p x14.n x14.c, .int .i64 x15, .bool x28] H16 (fun v7 H17 =>
  ∃ x29 : Int, ∃ x30 : Bool, v7 = .tuple #[.int .i64 x29, .bool x30] ∧ (
  iteB x30 (
  letH (H17.push (.cells #[.int .i64 function, .int .i64 (IntKind.i64.wrap ((-1 : Int) - x15)), .int .i64 x15, .int .i64 x29] t_api_Need (0, 0))) (fun H18 : Heap =>
  runH Tryz.prog (Builtin.append_ #[t_sl_api_Need, t_sl_api_Need] t_sl_api_Need #[.slice needs.p needs.n needs.c, .slice (some (⟨H17.size, 0, none⟩ : Addr)) 1 1]) H18 (fun v8 H19 =>
  ∃ needs3 : Sl, v8 = .slice needs3.p needs3.n needs3.c ∧ (
  I_ needs3 (IntKind.i64.wrap (x15 + (1 : Int))) H19 ∧ M_ needs3 (IntKind.i64.wrap (x15 + (1 : Int))) H19 < M_ needs x15 H4)))) (
  I_ needs (IntKind.i64.wrap (x15 + (1 : Int))) H17 ∧ M_ needs (IntKind.i64.wrap (x15 + (1 : Int))) H17 < M_ needs x15 H4))))

def F_resources_windows_r4 (R : Value → Heap → Prop) (l : Sl) (high : Bool) (function : Int) (H1 : Heap) (x12 : Sl) (x13 : Sl) (x14 : Sl) (I_ : Sl → Int → Heap → Prop) (M_ : Sl → Int → Heap → Nat) (needs : Sl) (x15 : Int) (H4 : Heap) : Prop :=
  iteB (decide (x15 < (3 : Int))) (
  0 ≤ x15 ∧ x15 < ((3 : Nat) : Int) ∧ (iteB (x15 == (0 : Int)) (
  ∃ J_ : Heap → Prop, (
  iteB (x15 == (2 : Int)) (
  iteB high (
  ∃ x16 : Bool, rd H4 ((⟨H1.size, 0, none⟩ : Addr).add 5) = some (.bool x16) ∧ (
  iteB x16 (
  CallsH Tryz.prog n_resources_prefAbove #[.slice l.p l.n l.c, .int .i64 function] H4 (fun v H5 =>
  ∃ x17 : Bool, v = .bool x17 ∧ (
  iteB (!x17) (
  I_ needs (IntKind.i64.wrap (x15 + (1 : Int))) H5 ∧ M_ needs (IntKind.i64.wrap (x15 + (1 : Int))) H5 < M_ needs x15 H4) (
  J_ H5)))) (
  I_ needs (IntKind.i64.wrap (x15 + (1 : Int))) H4 ∧ M_ needs (IntKind.i64.wrap (x15 + (1 : Int))) H4 < M_ needs x15 H4))) (
  I_ needs (IntKind.i64.wrap (x15 + (1 : Int))) H4 ∧ M_ needs (IntKind.i64.wrap (x15 + (1 : Int))) H4 < M_ needs x15 H4)) (
  J_ H4)) ∧ (∀ H6 : Heap, J_ H6 → F_resources_windows_k1 function H1 x12 I_ M_ needs x15 H4 H6)) (
  iteB (x15 == (1 : Int)) (
  ∃ J_1 : Heap → Prop, (
  iteB (x15 == (2 : Int)) (
  iteB high (
  ∃ x21 : Bool, rd H4 ((⟨H1.size, 0, none⟩ : Addr).add 5) = some (.bool x21) ∧ (
  iteB x21 (
  CallsH Tryz.prog n_resources_prefAbove #[.slice l.p l.n l.c, .int .i64 function] H4 (fun v3 H10 =>
  ∃ x22 : Bool, v3 = .bool x22 ∧ (
  iteB (!x22) (
  I_ needs (IntKind.i64.wrap (x15 + (1 : Int))) H10 ∧ M_ needs (IntKind.i64.wrap (x15 + (1 : Int))) H10 < M_ needs x15 H4) (
  J_1 H10)))) (
  I_ needs (IntKind.i64.wrap (x15 + (1 : Int))) H4 ∧ M_ needs (IntKind.i64.wrap (x15 + (1 : Int))) H4 < M_ needs x15 H4))) (
  I_ needs (IntKind.i64.wrap (x15 + (1 : Int))) H4 ∧ M_ needs (IntKind.i64.wrap (x15 + (1 : Int))) H4 < M_ needs x15 H4)) (
  J_1 H4)) ∧ (∀ H11 : Heap, J_1 H11 → F_resources_windows_k2 function H1 x13 I_ M_ needs x15 H4 H11)) (
  iteB (x15 == (2 : Int)) (
  ∃ J_2 : Heap → Prop, (
  iteB (x15 == (2 : Int)) (
  iteB high (
  ∃ x26 : Bool, rd H4 ((⟨H1.size, 0, none⟩ : Addr).add 5) = some (.bool x26) ∧ (
  iteB x26 (
  CallsH Tryz.prog n_resources_prefAbove #[.slice l.p l.n l.c, .int .i64 function] H4 (fun v6 H15 =>
  ∃ x27 : Bool, v6 = .bool x27 ∧ (
  iteB (!x27) (
  I_ needs (IntKind.i64.wrap (x15 + (1 : Int))) H15 ∧ M_ needs (IntKind.i64.wrap (x15 + (1 : Int))) H15 < M_ needs x15 H4) (
  J_2 H15)))) (
  I_ needs (IntKind.i64.wrap (x15 + (1 : Int))) H4 ∧ M_ needs (IntKind.i64.wrap (x15 + (1 : Int))) H4 < M_ needs x15 H4))) (
  I_ needs (IntKind.i64.wrap (x15 + (1 : Int))) H4 ∧ M_ needs (IntKind.i64.wrap (x15 + (1 : Int))) H4 < M_ needs x15 H4)) (
  J_2 H4)) ∧ (∀ H16 : Heap, J_2 H16 → F_resources_windows_k3 function H1 x14 I_ M_ needs x15 H4 H16)) (
  False))))) (
  R (.slice needs.p needs.n needs.c) H4)

def F_resources_windows (R : Value → Heap → Prop) (l : Sl) (high : Bool) (function : Int) (below_0 : Sl) (below_1 : Sl) (below_2 : Sl) (H : Heap) : Prop :=
  letH (H.push (.cells #[.slice below_0.p below_0.n below_0.c, .slice below_1.p below_1.n below_1.c, .slice below_2.p below_2.n below_2.c] t_3_sl_int (0, 0))) (fun H1 : Heap =>
  0 ≤ function ∧ function < (l.n : Int) ∧ (unSome l.p (fun a =>
  ∃ x : Int, rd H1 (a.add (function.toNat * 11)) = some (.int .i64 x) ∧ ∃ x1 : Int, rd H1 ((a.add (function.toNat * 11)).add 1) = some (.int .i64 x1) ∧ ∃ x2 : Int, rd H1 ((a.add (function.toNat * 11)).add 2) = some (.int .i64 x2) ∧ ∃ x3 : Int, rd H1 ((a.add (function.toNat * 11)).add 3) = some (.int .i64 x3) ∧ ∃ x4 : Bool, rd H1 ((a.add (function.toNat * 11)).add 4) = some (.bool x4) ∧ ∃ x5 : Bool, rd H1 ((a.add (function.toNat * 11)).add 5) = some (.bool x5) ∧ ∃ x6 : Bool, rd H1 ((a.add (function.toNat * 11)).add 6) = some (.bool x6) ∧ ∃ x7 : Int, rd H1 ((a.add (function.toNat * 11)).add 7) = some (.int .i64 x7) ∧ ∃ x8 : Int, rd H1 ((a.add (function.toNat * 11)).add 8) = some (.int .i64 x8) ∧ ∃ x9 : Int, rd H1 ((a.add (function.toNat * 11)).add 9) = some (.int .i64 x9) ∧ ∃ x10 : Sl, rd H1 ((a.add (function.toNat * 11)).add 10) = some (.slice x10.p x10.n x10.c) ∧ (
  letH (H1.push (.cells #[.int .i64 (0 : Int), .int .i64 (0 : Int), .int .i64 (0 : Int), .int .i64 (0 : Int), .bool false, .bool false, .bool false, .int .i64 (0 : Int), .int .i64 (0 : Int), .int .i64 (0 : Int), .slice none 0 0] t_api_Function (0, 0))) (fun H2 : Heap =>
  okRow H2 (⟨H1.size, 0, none⟩ : Addr) 11 ∧ (
  letH (wrs H2 (⟨H1.size, 0, none⟩ : Addr) [.int .i64 x, .int .i64 x1, .int .i64 x2, .int .i64 x3, .bool x4, .bool x5, .bool x6, .int .i64 x7, .int .i64 x8, .int .i64 x9, .slice x10.p x10.n x10.c]) (fun H3 : Heap =>
  ∃ x11 : Bool, rd H3 ((⟨H1.size, 0, none⟩ : Addr).add 4) = some (.bool x11) ∧ (
  iteB (!x11) (
  R (.slice none 0 0) H3) (
  ∃ x12 : Sl, rd H3 (⟨H.size, 0, none⟩ : Addr) = some (.slice x12.p x12.n x12.c) ∧ ∃ x13 : Sl, rd H3 ((⟨H.size, 0, none⟩ : Addr).add 1) = some (.slice x13.p x13.n x13.c) ∧ ∃ x14 : Sl, rd H3 ((⟨H.size, 0, none⟩ : Addr).add 2) = some (.slice x14.p x14.n x14.c) ∧ (
  ∃ I_ : Sl → Int → Heap → Prop, ∃ M_ : Sl → Int → Heap → Nat, I_ (Sl.mk none 0 0) (0 : Int) H3 ∧ (∀ needs : Sl, ∀ x15 : Int, ∀ H4 : Heap, I_ needs x15 H4 → F_resources_windows_r4 R l high function H1 x12 x13 x14 I_ M_ needs x15 H4)))))))))))

theorem F_resources_windows_eq (R : Value → Heap → Prop) (l : Sl) (high : Bool) (function : Int) (below_0 : Sl) (below_1 : Sl) (below_2 : Sl) (H : Heap) : wpF Tryz.prog Tryz.f56 [(10, .slice none 0 0), (23, .int .i64 0)] [(9, [], [0, 1, 2, 9, 10, 11, 12, 22, 23])] [(6, [10, 23], [0, 1, 2, 9, 22])] [20] [.slice l.p l.n l.c, .bool high, .int .i64 function, .agg #[.slice below_0.p below_0.n below_0.c, .slice below_1.p below_1.n below_1.c, .slice below_2.p below_2.n below_2.c]] H R = F_resources_windows R l high function below_0 below_1 below_2 H := by kernel_rfl

theorem F_resources_windows_ok {R : Value → Heap → Prop} (l : Sl) (high : Bool) (function : Int) (below_0 : Sl) (below_1 : Sl) (below_2 : Sl) {H : Heap} (h : F_resources_windows R l high function below_0 below_1 below_2 H) : CallsH Tryz.prog n_resources_windows #[.slice l.p l.n l.c, .bool high, .int .i64 function, .agg #[.slice below_0.p below_0.n below_0.c, .slice below_1.p below_1.n below_1.c, .slice below_2.p below_2.n below_2.c]] H R :=
  wpF_ok Tryz.func56 (F_resources_windows_eq R l high function below_0 below_1 below_2 H) h

/-! ### 57: platformfw/resources.largest -/

def F_resources_largest (R : Value → Heap → Prop) (classv : Int) (H : Heap) : Prop :=
  iteB (classv == (0 : Int)) (
  R (.int .i64 (15 : Int)) H) (
  iteB (classv == (1 : Int)) (
  R (.int .i64 (31 : Int)) H) (
  R (.int .i64 (44 : Int)) H))

theorem F_resources_largest_eq (R : Value → Heap → Prop) (classv : Int) (H : Heap) : wpF Tryz.prog Tryz.f57 [] [] [] [20] [.int .i64 classv] H R = F_resources_largest R classv H := by kernel_rfl

theorem F_resources_largest_ok {R : Value → Heap → Prop} (classv : Int) {H : Heap} (h : F_resources_largest R classv H) : CallsH Tryz.prog n_resources_largest #[.int .i64 classv] H R :=
  wpF_ok Tryz.func57 (F_resources_largest_eq R classv H) h

/-! ### 58: platformfw/allocate.Free -/

/-! ### 59: platformfw/platformfwref18.ValidFunction -/

def F_ref18_ValidFunction_k1 (R : Value → Heap → Prop) (H : Heap) (I_ : Int → Heap → Prop) (M_ : Int → Heap → Nat) (i : Int) (H4 : Heap) (x46 : Bool) (H7 : Heap) : Prop :=
  iteB x46 (
  ∃ x47 : Int, rd H7 ((⟨H4.size, 0, none⟩ : Addr).add 1) = some (.int .i64 x47) ∧ (
  iteB (decide (x47 < (4 : Int))) (
  R (.bool false) H7) (
  ∃ x48 : Int, rd H7 ((⟨H4.size, 0, none⟩ : Addr).add 1) = some (.int .i64 x48) ∧ (
  iteB (decide (x48 > (40 : Int))) (
  R (.bool false) H7) (
  ∃ x49 : Sl, rd H7 ((⟨H.size, 0, none⟩ : Addr).add 10) = some (.slice x49.p x49.n x49.c) ∧ (
  iteB (decide ((IntKind.i64.wrap (i + (1 : Int))) ≥ (x49.n : Int))) (
  R (.bool false) H7) (
  ∃ x50 : Sl, rd H7 ((⟨H.size, 0, none⟩ : Addr).add 10) = some (.slice x50.p x50.n x50.c) ∧ (
  0 ≤ (IntKind.i64.wrap (i + (1 : Int))) ∧ (IntKind.i64.wrap (i + (1 : Int))) < (x50.n : Int) ∧ (unSome x50.p (fun a1 =>
  ∃ x51 : Int, rd H7 (a1.add ((IntKind.i64.wrap (i + (1 : Int))).toNat * 2)) = some (.int .i64 x51) ∧ (
  iteB (x51 != (0 : Int)) (
  R (.bool false) H7) (
  letV (IntKind.i64.wrap (i + (1 : Int))) (fun i4 : Int =>
  I_ i4 H7 ∧ M_ i4 H7 < M_ i H4))))))))))))) (
  R (.bool false) H7)

def F_ref18_ValidFunction_r2 (R : Value → Heap → Prop) (H : Heap) (I_ : Int → Heap → Prop) (M_ : Int → Heap → Nat) (i : Int) (H4 : Heap) : Prop :=
  ∃ x36 : Sl, rd H4 ((⟨H.size, 0, none⟩ : Addr).add 10) = some (.slice x36.p x36.n x36.c) ∧ (
  iteB (decide (i < (x36.n : Int))) (
  ∃ x37 : Sl, rd H4 ((⟨H.size, 0, none⟩ : Addr).add 10) = some (.slice x37.p x37.n x37.c) ∧ (
  0 ≤ i ∧ i < (x37.n : Int) ∧ (unSome x37.p (fun a =>
  ∃ x38 : Int, rd H4 (a.add (i.toNat * 2)) = some (.int .i64 x38) ∧ ∃ x39 : Int, rd H4 ((a.add (i.toNat * 2)).add 1) = some (.int .i64 x39) ∧ (
  letH (H4.push (.cells #[.int .i64 (0 : Int), .int .i64 (0 : Int)] t_api_Bar (0, 0))) (fun H5 : Heap =>
  okRow H5 (⟨H4.size, 0, none⟩ : Addr) 2 ∧ (
  letH (wrs H5 (⟨H4.size, 0, none⟩ : Addr) [.int .i64 x38, .int .i64 x39]) (fun H6 : Heap =>
  ∃ x40 : Int, rd H6 (⟨H4.size, 0, none⟩ : Addr) = some (.int .i64 x40) ∧ (
  iteB (x40 == (0 : Int)) (
  ∃ x41 : Int, rd H6 ((⟨H4.size, 0, none⟩ : Addr).add 1) = some (.int .i64 x41) ∧ (
  iteB (x41 != (0 : Int)) (
  R (.bool false) H6) (
  letV (IntKind.i64.wrap (i + (1 : Int))) (fun i1 : Int =>
  I_ i1 H6 ∧ M_ i1 H6 < M_ i H4)))) (
  iteB (x40 == (1 : Int)) (
  ∃ x42 : Int, rd H6 ((⟨H4.size, 0, none⟩ : Addr).add 1) = some (.int .i64 x42) ∧ (
  iteB (decide (x42 < (2 : Int))) (
  R (.bool false) H6) (
  ∃ x43 : Int, rd H6 ((⟨H4.size, 0, none⟩ : Addr).add 1) = some (.int .i64 x43) ∧ (
  iteB (decide (x43 > (8 : Int))) (
  R (.bool false) H6) (
  letV (IntKind.i64.wrap (i + (1 : Int))) (fun i2 : Int =>
  I_ i2 H6 ∧ M_ i2 H6 < M_ i H4)))))) (
  iteB (x40 == (2 : Int)) (
  ∃ x44 : Int, rd H6 ((⟨H4.size, 0, none⟩ : Addr).add 1) = some (.int .i64 x44) ∧ (
  iteB (decide (x44 < (4 : Int))) (
  R (.bool false) H6) (
  ∃ x45 : Int, rd H6 ((⟨H4.size, 0, none⟩ : Addr).add 1) = some (.int .i64 x45) ∧ (
  iteB (decide (x45 > (31 : Int))) (
  R (.bool false) H6) (
  letV (IntKind.i64.wrap (i + (1 : Int))) (fun i3 : Int =>
  I_ i3 H6 ∧ M_ i3 H6 < M_ i H4)))))) (
  ∃ J_1 : Bool → Heap → Prop, (
  iteB (x40 == (3 : Int)) (
  J_1 true H6) (
  J_1 (x40 == (4 : Int)) H6)) ∧ (∀ x46 : Bool, ∀ H7 : Heap, J_1 x46 H7 → F_ref18_ValidFunction_k1 R H I_ M_ i H4 x46 H7))))))))))))) (
  R (.bool true) H4))

def F_ref18_ValidFunction_k3 (R : Value → Heap → Prop) (H : Heap) (H2 : Heap) : Prop :=
  ∃ x23 : Sl, rd H2 ((⟨H.size, 0, none⟩ : Addr).add 10) = some (.slice x23.p x23.n x23.c) ∧ (
  ∃ x24 : Int, rd H2 (⟨H.size, 0, none⟩ : Addr) = some (.int .i64 x24) ∧ ∃ x25 : Int, rd H2 ((⟨H.size, 0, none⟩ : Addr).add 1) = some (.int .i64 x25) ∧ ∃ x26 : Int, rd H2 ((⟨H.size, 0, none⟩ : Addr).add 2) = some (.int .i64 x26) ∧ ∃ x27 : Int, rd H2 ((⟨H.size, 0, none⟩ : Addr).add 3) = some (.int .i64 x27) ∧ ∃ x28 : Bool, rd H2 ((⟨H.size, 0, none⟩ : Addr).add 4) = some (.bool x28) ∧ ∃ x29 : Bool, rd H2 ((⟨H.size, 0, none⟩ : Addr).add 5) = some (.bool x29) ∧ ∃ x30 : Bool, rd H2 ((⟨H.size, 0, none⟩ : Addr).add 6) = some (.bool x30) ∧ ∃ x31 : Int, rd H2 ((⟨H.size, 0, none⟩ : Addr).add 7) = some (.int .i64 x31) ∧ ∃ x32 : Int, rd H2 ((⟨H.size, 0, none⟩ : Addr).add 8) = some (.int .i64 x32) ∧ ∃ x33 : Int, rd H2 ((⟨H.size, 0, none⟩ : Addr).add 9) = some (.int .i64 x33) ∧ ∃ x34 : Sl, rd H2 ((⟨H.size, 0, none⟩ : Addr).add 10) = some (.slice x34.p x34.n x34.c) ∧ (
  CallsH Tryz.prog n_ref18_Registers #[.agg #[.int .i64 x24, .int .i64 x25, .int .i64 x26, .int .i64 x27, .bool x28, .bool x29, .bool x30, .int .i64 x31, .int .i64 x32, .int .i64 x33, .slice x34.p x34.n x34.c]] H2 (fun v H3 =>
  ∃ x35 : Int, v = .int .i64 x35 ∧ (
  Keeps H2 H3 [(((⟨H.size, 0, none⟩ : Addr).add 10), 1)] ∧ (
  iteB (decide ((x23.n : Int) > x35)) (
  R (.bool false) H3) (
  ∃ I_ : Int → Heap → Prop, ∃ M_ : Int → Heap → Nat, I_ (0 : Int) H3 ∧ (∀ i : Int, ∀ H4 : Heap, I_ i H4 → F_ref18_ValidFunction_r2 R H I_ M_ i H4)))))))

def F_ref18_ValidFunction (R : Value → Heap → Prop) (f_0 : Int) (f_1 : Int) (f_2 : Int) (f_3 : Int) (f_4 : Bool) (f_5 : Bool) (f_6 : Bool) (f_7 : Int) (f_8 : Int) (f_9 : Int) (f_10 : Sl) (H : Heap) : Prop :=
  letH (H.push (.cells #[.int .i64 f_0, .int .i64 f_1, .int .i64 f_2, .int .i64 f_3, .bool f_4, .bool f_5, .bool f_6, .int .i64 f_7, .int .i64 f_8, .int .i64 f_9, .slice f_10.p f_10.n f_10.c] t_api_Function (0, 0))) (fun H1 : Heap =>
  ∃ x : Int, rd H1 ((⟨H.size, 0, none⟩ : Addr).add 2) = some (.int .i64 x) ∧ (
  iteB (decide (x < (1 : Int))) (
  R (.bool false) H1) (
  ∃ x1 : Int, rd H1 ((⟨H.size, 0, none⟩ : Addr).add 2) = some (.int .i64 x1) ∧ (
  iteB (decide (x1 > (65534 : Int))) (
  R (.bool false) H1) (
  ∃ x2 : Int, rd H1 ((⟨H.size, 0, none⟩ : Addr).add 3) = some (.int .i64 x2) ∧ (
  iteB (decide (x2 < (0 : Int))) (
  R (.bool false) H1) (
  ∃ x3 : Int, rd H1 ((⟨H.size, 0, none⟩ : Addr).add 3) = some (.int .i64 x3) ∧ (
  iteB (decide (x3 > (65535 : Int))) (
  R (.bool false) H1) (
  ∃ x4 : Int, rd H1 ((⟨H.size, 0, none⟩ : Addr).add 1) = some (.int .i64 x4) ∧ (
  iteB (decide (x4 < (0 : Int))) (
  R (.bool false) H1) (
  ∃ x5 : Int, rd H1 ((⟨H.size, 0, none⟩ : Addr).add 1) = some (.int .i64 x5) ∧ (
  iteB (decide (x5 > (31 : Int))) (
  R (.bool false) H1) (
  ∃ x6 : Int, rd H1 ((⟨H.size, 0, none⟩ : Addr).add 8) = some (.int .i64 x6) ∧ (
  iteB (decide (x6 < (0 : Int))) (
  R (.bool false) H1) (
  ∃ x7 : Int, rd H1 ((⟨H.size, 0, none⟩ : Addr).add 8) = some (.int .i64 x7) ∧ (
  iteB (decide (x7 > (4 : Int))) (
  R (.bool false) H1) (
  ∃ x8 : Int, rd H1 ((⟨H.size, 0, none⟩ : Addr).add 7) = some (.int .i64 x8) ∧ (
  iteB (decide (x8 < (0 : Int))) (
  R (.bool false) H1) (
  ∃ x9 : Int, rd H1 ((⟨H.size, 0, none⟩ : Addr).add 7) = some (.int .i64 x9) ∧ (
  iteB (decide (x9 > (32 : Int))) (
  R (.bool false) H1) (
  ∃ J_ : Heap → Prop, (
  ∃ x10 : Int, rd H1 ((⟨H.size, 0, none⟩ : Addr).add 9) = some (.int .i64 x10) ∧ (
  iteB (decide (x10 < (0 : Int))) (
  R (.bool false) H1) (
  ∃ x11 : Int, rd H1 ((⟨H.size, 0, none⟩ : Addr).add 9) = some (.int .i64 x11) ∧ (
  iteB (decide (x11 > (32 : Int))) (
  R (.bool false) H1) (
  ∃ x12 : Int, rd H1 ((⟨H.size, 0, none⟩ : Addr).add 9) = some (.int .i64 x12) ∧ (
  ∃ x13 : Int, rd H1 ((⟨H.size, 0, none⟩ : Addr).add 9) = some (.int .i64 x13) ∧ (
  iteB ((bitsAnd .i64 x12 (IntKind.i64.wrap (x13 - (1 : Int)))) != (0 : Int)) (
  R (.bool false) H1) (
  ∃ x14 : Int, rd H1 ((⟨H.size, 0, none⟩ : Addr).add 7) = some (.int .i64 x14) ∧ (
  iteB (decide (x14 > (0 : Int))) (
  ∃ x15 : Bool, rd H1 ((⟨H.size, 0, none⟩ : Addr).add 4) = some (.bool x15) ∧ (
  iteB (!x15) (
  R (.bool false) H1) (
  ∃ x16 : Bool, rd H1 ((⟨H.size, 0, none⟩ : Addr).add 6) = some (.bool x16) ∧ (
  iteB (!x16) (
  R (.bool false) H1) (
  ∃ x17 : Bool, rd H1 ((⟨H.size, 0, none⟩ : Addr).add 4) = some (.bool x17) ∧ (
  iteB (!x17) (
  ∃ x18 : Bool, rd H1 ((⟨H.size, 0, none⟩ : Addr).add 5) = some (.bool x18) ∧ (
  iteB x18 (
  R (.bool false) H1) (
  ∃ x19 : Bool, rd H1 ((⟨H.size, 0, none⟩ : Addr).add 6) = some (.bool x19) ∧ (
  iteB x19 (
  R (.bool false) H1) (
  J_ H1))))) (
  J_ H1))))))) (
  ∃ x20 : Bool, rd H1 ((⟨H.size, 0, none⟩ : Addr).add 4) = some (.bool x20) ∧ (
  iteB (!x20) (
  ∃ x21 : Bool, rd H1 ((⟨H.size, 0, none⟩ : Addr).add 5) = some (.bool x21) ∧ (
  iteB x21 (
  R (.bool false) H1) (
  ∃ x22 : Bool, rd H1 ((⟨H.size, 0, none⟩ : Addr).add 6) = some (.bool x22) ∧ (
  iteB x22 (
  R (.bool false) H1) (
  J_ H1))))) (
  J_ H1)))))))))))) ∧ (∀ H2 : Heap, J_ H2 → F_ref18_ValidFunction_k3 R H H2))))))))))))))))))))))

theorem F_ref18_ValidFunction_eq (R : Value → Heap → Prop) (f_0 : Int) (f_1 : Int) (f_2 : Int) (f_3 : Int) (f_4 : Bool) (f_5 : Bool) (f_6 : Bool) (f_7 : Int) (f_8 : Int) (f_9 : Int) (f_10 : Sl) (H : Heap) : wpF Tryz.prog Tryz.f59 [(3, .int .i64 0), (143, .bool false)] [(5, [], [1]), (24, [143], [1, 3, 4])] [(8, [3], [1])] [20] [.agg #[.int .i64 f_0, .int .i64 f_1, .int .i64 f_2, .int .i64 f_3, .bool f_4, .bool f_5, .bool f_6, .int .i64 f_7, .int .i64 f_8, .int .i64 f_9, .slice f_10.p f_10.n f_10.c]] H R = F_ref18_ValidFunction R f_0 f_1 f_2 f_3 f_4 f_5 f_6 f_7 f_8 f_9 f_10 H := by kernel_rfl

theorem F_ref18_ValidFunction_ok {R : Value → Heap → Prop} (f_0 : Int) (f_1 : Int) (f_2 : Int) (f_3 : Int) (f_4 : Bool) (f_5 : Bool) (f_6 : Bool) (f_7 : Int) (f_8 : Int) (f_9 : Int) (f_10 : Sl) {H : Heap} (h : F_ref18_ValidFunction R f_0 f_1 f_2 f_3 f_4 f_5 f_6 f_7 f_8 f_9 f_10 H) : CallsH Tryz.prog n_ref18_ValidFunction #[.agg #[.int .i64 f_0, .int .i64 f_1, .int .i64 f_2, .int .i64 f_3, .bool f_4, .bool f_5, .bool f_6, .int .i64 f_7, .int .i64 f_8, .int .i64 f_9, .slice f_10.p f_10.n f_10.c]] H R :=
  wpF_ok Tryz.func59 (F_ref18_ValidFunction_eq R f_0 f_1 f_2 f_3 f_4 f_5 f_6 f_7 f_8 f_9 f_10 H) h

/-! ### 60: platformfw/platformfwref18.Class -/

def F_ref18_Class (R : Value → Heap → Prop) (l : Sl) (high : Bool) (i : Int) (k : Int) (H : Heap) : Prop :=
  CallsH Tryz.prog n_ref18_Valid #[.slice l.p l.n l.c] H (fun v H1 =>
  ∃ x : Bool, v = .bool x ∧ (
  iteB (!x) (
  R (.tuple #[.int .i64 (0 : Int), .bool false]) H1) (
  iteB (decide (i < (0 : Int))) (
  R (.tuple #[.int .i64 (0 : Int), .bool false]) H1) (
  iteB (decide (i ≥ (l.n : Int))) (
  R (.tuple #[.int .i64 (0 : Int), .bool false]) H1) (
  0 ≤ i ∧ i < (l.n : Int) ∧ (unSome l.p (fun a =>
  ∃ x1 : Int, rd H1 (a.add (i.toNat * 11)) = some (.int .i64 x1) ∧ ∃ x2 : Int, rd H1 ((a.add (i.toNat * 11)).add 1) = some (.int .i64 x2) ∧ ∃ x3 : Int, rd H1 ((a.add (i.toNat * 11)).add 2) = some (.int .i64 x3) ∧ ∃ x4 : Int, rd H1 ((a.add (i.toNat * 11)).add 3) = some (.int .i64 x4) ∧ ∃ x5 : Bool, rd H1 ((a.add (i.toNat * 11)).add 4) = some (.bool x5) ∧ ∃ x6 : Bool, rd H1 ((a.add (i.toNat * 11)).add 5) = some (.bool x6) ∧ ∃ x7 : Bool, rd H1 ((a.add (i.toNat * 11)).add 6) = some (.bool x7) ∧ ∃ x8 : Int, rd H1 ((a.add (i.toNat * 11)).add 7) = some (.int .i64 x8) ∧ ∃ x9 : Int, rd H1 ((a.add (i.toNat * 11)).add 8) = some (.int .i64 x9) ∧ ∃ x10 : Int, rd H1 ((a.add (i.toNat * 11)).add 9) = some (.int .i64 x10) ∧ ∃ x11 : Sl, rd H1 ((a.add (i.toNat * 11)).add 10) = some (.slice x11.p x11.n x11.c) ∧ (
  CallsH Tryz.prog n_ref18_bar #[.agg #[.int .i64 x1, .int .i64 x2, .int .i64 x3, .int .i64 x4, .bool x5, .bool x6, .bool x7, .int .i64 x8, .int .i64 x9, .int .i64 x10, .slice x11.p x11.n x11.c], .int .i64 k] H1 (fun v1 H2 =>
  ∃ x12 : Int, ∃ x13 : Int, v1 = .agg #[.int .i64 x12, .int .i64 x13] ∧ (
  iteB (x12 == (0 : Int)) (
  R (.tuple #[.int .i64 (0 : Int), .bool false]) H2) (
  0 ≤ i ∧ i < (l.n : Int) ∧ (unSome l.p (fun a1 =>
  ∃ x14 : Int, rd H2 (a1.add (i.toNat * 11)) = some (.int .i64 x14) ∧ ∃ x15 : Int, rd H2 ((a1.add (i.toNat * 11)).add 1) = some (.int .i64 x15) ∧ ∃ x16 : Int, rd H2 ((a1.add (i.toNat * 11)).add 2) = some (.int .i64 x16) ∧ ∃ x17 : Int, rd H2 ((a1.add (i.toNat * 11)).add 3) = some (.int .i64 x17) ∧ ∃ x18 : Bool, rd H2 ((a1.add (i.toNat * 11)).add 4) = some (.bool x18) ∧ ∃ x19 : Bool, rd H2 ((a1.add (i.toNat * 11)).add 5) = some (.bool x19) ∧ ∃ x20 : Bool, rd H2 ((a1.add (i.toNat * 11)).add 6) = some (.bool x20) ∧ ∃ x21 : Int, rd H2 ((a1.add (i.toNat * 11)).add 7) = some (.int .i64 x21) ∧ ∃ x22 : Int, rd H2 ((a1.add (i.toNat * 11)).add 8) = some (.int .i64 x22) ∧ ∃ x23 : Int, rd H2 ((a1.add (i.toNat * 11)).add 9) = some (.int .i64 x23) ∧ ∃ x24 : Sl, rd H2 ((a1.add (i.toNat * 11)).add 10) = some (.slice x24.p x24.n x24.c) ∧ (
  CallsH Tryz.prog n_ref18_bar #[.agg #[.int .i64 x14, .int .i64 x15, .int .i64 x16, .int .i64 x17, .bool x18, .bool x19, .bool x20, .int .i64 x21, .int .i64 x22, .int .i64 x23, .slice x24.p x24.n x24.c], .int .i64 k] H2 (fun v2 H3 =>
  ∃ x25 : Int, ∃ x26 : Int, v2 = .agg #[.int .i64 x25, .int .i64 x26] ∧ (
  iteB (x25 == (1 : Int)) (
  R (.tuple #[.int .i64 (0 : Int), .bool true]) H3) (
  0 ≤ i ∧ i < (l.n : Int) ∧ (unSome l.p (fun a2 =>
  ∃ x27 : Int, rd H3 (a2.add (i.toNat * 11)) = some (.int .i64 x27) ∧ ∃ x28 : Int, rd H3 ((a2.add (i.toNat * 11)).add 1) = some (.int .i64 x28) ∧ ∃ x29 : Int, rd H3 ((a2.add (i.toNat * 11)).add 2) = some (.int .i64 x29) ∧ ∃ x30 : Int, rd H3 ((a2.add (i.toNat * 11)).add 3) = some (.int .i64 x30) ∧ ∃ x31 : Bool, rd H3 ((a2.add (i.toNat * 11)).add 4) = some (.bool x31) ∧ ∃ x32 : Bool, rd H3 ((a2.add (i.toNat * 11)).add 5) = some (.bool x32) ∧ ∃ x33 : Bool, rd H3 ((a2.add (i.toNat * 11)).add 6) = some (.bool x33) ∧ ∃ x34 : Int, rd H3 ((a2.add (i.toNat * 11)).add 7) = some (.int .i64 x34) ∧ ∃ x35 : Int, rd H3 ((a2.add (i.toNat * 11)).add 8) = some (.int .i64 x35) ∧ ∃ x36 : Int, rd H3 ((a2.add (i.toNat * 11)).add 9) = some (.int .i64 x36) ∧ ∃ x37 : Sl, rd H3 ((a2.add (i.toNat * 11)).add 10) = some (.slice x37.p x37.n x37.c) ∧ (
  CallsH Tryz.prog n_ref18_bar #[.agg #[.int .i64 x27, .int .i64 x28, .int .i64 x29, .int .i64 x30, .bool x31, .bool x32, .bool x33, .int .i64 x34, .int .i64 x35, .int .i64 x36, .slice x37.p x37.n x37.c], .int .i64 k] H3 (fun v3 H4 =>
  ∃ x38 : Int, ∃ x39 : Int, v3 = .agg #[.int .i64 x38, .int .i64 x39] ∧ (
  iteB (x38 == (4 : Int)) (
  iteB high (
  CallsH Tryz.prog n_ref18_above #[.slice l.p l.n l.c, .int .i64 i] H4 (fun v4 H5 =>
  ∃ x40 : Bool, v4 = .bool x40 ∧ (
  iteB x40 (
  R (.tuple #[.int .i64 (2 : Int), .bool true]) H5) (
  R (.tuple #[.int .i64 (1 : Int), .bool true]) H5)))) (
  R (.tuple #[.int .i64 (1 : Int), .bool true]) H4)) (
  R (.tuple #[.int .i64 (1 : Int), .bool true]) H4)))))))))))))))))))))))

theorem F_ref18_Class_eq (R : Value → Heap → Prop) (l : Sl) (high : Bool) (i : Int) (k : Int) (H : Heap) : wpF Tryz.prog Tryz.f60 [] [] [] [20] [.slice l.p l.n l.c, .bool high, .int .i64 i, .int .i64 k] H R = F_ref18_Class R l high i k H := by kernel_rfl

theorem F_ref18_Class_ok {R : Value → Heap → Prop} (l : Sl) (high : Bool) (i : Int) (k : Int) {H : Heap} (h : F_ref18_Class R l high i k H) : CallsH Tryz.prog n_ref18_Class #[.slice l.p l.n l.c, .bool high, .int .i64 i, .int .i64 k] H R :=
  wpF_ok Tryz.func60 (F_ref18_Class_eq R l high i k H) h

/-! ### 61: platformfw/platformfwref18.window -/

def F_ref18_window_k1 (needs : Sl) (I_ : Sl → Int → Heap → Prop) (M_ : Sl → Int → Heap → Nat) (sizes : Sl) (k : Int) (H1 : Heap) (x3 : Bool) (H2 : Heap) : Prop :=
  iteB x3 (
  0 ≤ k ∧ k < (needs.n : Int) ∧ (unSome needs.p (fun a3 =>
  ∃ x4 : Int, rd H2 ((a3.add (k.toNat * 4)).add 3) = some (.int .i64 x4) ∧ (
  letH (H2.push (.cells #[.int .i64 x4] t_int (0, 0))) (fun H3 : Heap =>
  runH Tryz.prog (Builtin.append_ #[t_sl_int, t_sl_int] t_sl_int #[.slice sizes.p sizes.n sizes.c, .slice (some (⟨H2.size, 0, none⟩ : Addr)) 1 1]) H3 (fun v H4 =>
  ∃ sizes1 : Sl, v = .slice sizes1.p sizes1.n sizes1.c ∧ (
  letV (IntKind.i64.wrap (k + (1 : Int))) (fun k1 : Int =>
  I_ sizes1 k1 H4 ∧ M_ sizes1 k1 H4 < M_ sizes k H1)))))))) (
  letV (IntKind.i64.wrap (k + (1 : Int))) (fun k2 : Int =>
  I_ sizes k2 H2 ∧ M_ sizes k2 H2 < M_ sizes k H1))

def F_ref18_window_k2 (R : Value → Heap → Prop) (l : Sl) (i : Int) (classv : Int) (sizes : Sl) (H7 : Heap) : Prop :=
  0 ≤ i ∧ i < (l.n : Int) ∧ (unSome l.p (fun a6 =>
  ∃ x8 : Bool, rd H7 ((a6.add (i.toNat * 11)).add 6) = some (.bool x8) ∧ (
  CallsH Tryz.prog n_ref18_WindowSize #[.slice sizes.p sizes.n sizes.c, .int .i64 classv, .bool x8] H7 (fun v2 H8 =>
  ∃ x9 : Int, ∃ x10 : Bool, v2 = .tuple #[.int .i64 x9, .bool x10] ∧ (
  R (.tuple #[.int .i64 x9, .bool x10]) H8)))))

def F_ref18_window_k3 (R : Value → Heap → Prop) (l : Sl) (i : Int) (classv : Int) (sizes : Sl) (port : Bool) (H6 : Heap) : Prop :=
  ∃ J_2 : Heap → Prop, (
  iteB ((sizes.n : Int) == (0 : Int)) (
  iteB (!port) (
  R (.tuple #[.int .i64 (0 : Int), .bool false]) H6) (
  J_2 H6)) (
  J_2 H6)) ∧ (∀ H7 : Heap, J_2 H7 → F_ref18_window_k2 R l i classv sizes H7)

def F_ref18_window_r4 (R : Value → Heap → Prop) (l : Sl) (high : Bool) (i : Int) (classv : Int) (needs : Sl) (I_ : Sl → Int → Heap → Prop) (M_ : Sl → Int → Heap → Nat) (sizes : Sl) (k : Int) (H1 : Heap) : Prop :=
  iteB (decide (k < (needs.n : Int))) (
  ∃ J_ : Bool → Heap → Prop, (
  0 ≤ k ∧ k < (needs.n : Int) ∧ (unSome needs.p (fun a =>
  ∃ x : Int, rd H1 ((a.add (k.toNat * 4)).add 2) = some (.int .i64 x) ∧ (
  iteB (x == classv) (
  0 ≤ k ∧ k < (needs.n : Int) ∧ (unSome needs.p (fun a1 =>
  ∃ x1 : Int, rd H1 (a1.add (k.toNat * 4)) = some (.int .i64 x1) ∧ (
  0 ≤ x1 ∧ x1 < (l.n : Int) ∧ (unSome l.p (fun a2 =>
  ∃ x2 : Int, rd H1 (a2.add (x1.toNat * 11)) = some (.int .i64 x2) ∧ (
  J_ (x2 == i) H1))))))) (
  J_ false H1))))) ∧ (∀ x3 : Bool, ∀ H2 : Heap, J_ x3 H2 → F_ref18_window_k1 needs I_ M_ sizes k H1 x3 H2)) (
  ∃ J_1 : Bool → Heap → Prop, (
  0 ≤ i ∧ i < (l.n : Int) ∧ (unSome l.p (fun a4 =>
  ∃ x5 : Bool, rd H1 ((a4.add (i.toNat * 11)).add 6) = some (.bool x5) ∧ (
  iteB x5 (
  iteB (classv != (2 : Int)) (
  J_1 true H1) (
  iteB high (
  0 ≤ i ∧ i < (l.n : Int) ∧ (unSome l.p (fun a5 =>
  ∃ x6 : Bool, rd H1 ((a5.add (i.toNat * 11)).add 5) = some (.bool x6) ∧ (
  iteB x6 (
  CallsH Tryz.prog n_ref18_above #[.slice l.p l.n l.c, .int .i64 i] H1 (fun v1 H5 =>
  ∃ x7 : Bool, v1 = .bool x7 ∧ (
  J_1 x7 H5))) (
  J_1 false H1))))) (
  J_1 false H1))) (
  J_1 false H1))))) ∧ (∀ port : Bool, ∀ H6 : Heap, J_1 port H6 → F_ref18_window_k3 R l i classv sizes port H6))

def F_ref18_window (R : Value → Heap → Prop) (l : Sl) (high : Bool) (i : Int) (classv : Int) (needs : Sl) (H : Heap) : Prop :=
  ∃ I_ : Sl → Int → Heap → Prop, ∃ M_ : Sl → Int → Heap → Nat, I_ (Sl.mk none 0 0) (0 : Int) H ∧ (∀ sizes : Sl, ∀ k : Int, ∀ H1 : Heap, I_ sizes k H1 → F_ref18_window_r4 R l high i classv needs I_ M_ sizes k H1)

theorem F_ref18_window_eq (R : Value → Heap → Prop) (l : Sl) (high : Bool) (i : Int) (classv : Int) (needs : Sl) (H : Heap) : wpF Tryz.prog Tryz.f61 [(12, .slice none 0 0), (13, .int .i64 0), (14, .bool false), (40, .bool false)] [(6, [40], [0, 1, 2, 3, 4, 12, 13]), (8, [14], [0, 2, 3, 12]), (10, [], [0, 2, 3, 12])] [(3, [12, 13], [0, 1, 2, 3, 4])] [20] [.slice l.p l.n l.c, .bool high, .int .i64 i, .int .i64 classv, .slice needs.p needs.n needs.c] H R = F_ref18_window R l high i classv needs H := by kernel_rfl

theorem F_ref18_window_ok {R : Value → Heap → Prop} (l : Sl) (high : Bool) (i : Int) (classv : Int) (needs : Sl) {H : Heap} (h : F_ref18_window R l high i classv needs H) : CallsH Tryz.prog n_ref18_window #[.slice l.p l.n l.c, .bool high, .int .i64 i, .int .i64 classv, .slice needs.p needs.n needs.c] H R :=
  wpF_ok Tryz.func61 (F_ref18_window_eq R l high i classv needs H) h

/-! ### 62: platformfw/platformfwref18.NeedsBelow -/

def F_ref18_NeedsBelow_k1 (needs : Sl) (I_ : Sl → Int → Heap → Prop) (M_ : Sl → Int → Heap → Nat) (out : Sl) (k : Int) (H2 : Heap) (x3 : Bool) (H3 : Heap) : Prop :=
  iteB x3 (
  0 ≤ k ∧ k < (needs.n : Int) ∧ (unSome needs.p (fun a4 =>
  ∃ x4 : Int, rd H3 (a4.add (k.toNat * 4)) = some (.int .i64 x4) ∧ ∃ x5 : Int, rd H3 ((a4.add (k.toNat * 4)).add 1) = some (.int .i64 x5) ∧ ∃ x6 : Int, rd H3 ((a4.add (k.toNat * 4)).add 2) = some (.int .i64 x6) ∧ ∃ x7 : Int, rd H3 ((a4.add (k.toNat * 4)).add 3) = some (.int .i64 x7) ∧ (
  letH (H3.push (.cells #[.int .i64 x4, .int .i64 x5, .int .i64 x6, .int .i64 x7] t_api_Need (0, 0))) (fun H4 : Heap =>
  runH Tryz.prog (Builtin.append_ #[t_sl_api_Need, t_sl_api_Need] t_sl_api_Need #[.slice out.p out.n out.c, .slice (some (⟨H3.size, 0, none⟩ : Addr)) 1 1]) H4 (fun v H5 =>
  ∃ out1 : Sl, v = .slice out1.p out1.n out1.c ∧ (
  letV (IntKind.i64.wrap (k + (1 : Int))) (fun k1 : Int =>
  I_ out1 k1 H5 ∧ M_ out1 k1 H5 < M_ out k H2)))))))) (
  letV (IntKind.i64.wrap (k + (1 : Int))) (fun k2 : Int =>
  I_ out k2 H3 ∧ M_ out k2 H3 < M_ out k H2))

def F_ref18_NeedsBelow_r2 (R : Value → Heap → Prop) (l : Sl) (needs : Sl) (parent : Int) (classv : Int) (I_ : Sl → Int → Heap → Prop) (M_ : Sl → Int → Heap → Nat) (out : Sl) (k : Int) (H2 : Heap) : Prop :=
  iteB (decide (k < (needs.n : Int))) (
  0 ≤ k ∧ k < (needs.n : Int) ∧ (unSome needs.p (fun a1 =>
  ∃ f : Int, rd H2 (a1.add (k.toNat * 4)) = some (.int .i64 f) ∧ (
  ∃ J_1 : Bool → Heap → Prop, (
  0 ≤ k ∧ k < (needs.n : Int) ∧ (unSome needs.p (fun a2 =>
  ∃ x1 : Int, rd H2 ((a2.add (k.toNat * 4)).add 2) = some (.int .i64 x1) ∧ (
  iteB (x1 == classv) (
  iteB (decide (f ≥ (0 : Int))) (
  iteB (decide (f < (l.n : Int))) (
  0 ≤ f ∧ f < (l.n : Int) ∧ (unSome l.p (fun a3 =>
  ∃ x2 : Int, rd H2 (a3.add (f.toNat * 11)) = some (.int .i64 x2) ∧ (
  J_1 (x2 == parent) H2)))) (
  J_1 false H2)) (
  J_1 false H2)) (
  J_1 false H2))))) ∧ (∀ x3 : Bool, ∀ H3 : Heap, J_1 x3 H3 → F_ref18_NeedsBelow_k1 needs I_ M_ out k H2 x3 H3))))) (
  R (.slice out.p out.n out.c) H2)

def F_ref18_NeedsBelow_k3 (R : Value → Heap → Prop) (l : Sl) (needs : Sl) (parent : Int) (classv : Int) (H1 : Heap) : Prop :=
  ∃ I_ : Sl → Int → Heap → Prop, ∃ M_ : Sl → Int → Heap → Nat, I_ (Sl.mk none 0 0) (0 : Int) H1 ∧ (∀ out : Sl, ∀ k : Int, ∀ H2 : Heap, I_ out k H2 → F_ref18_NeedsBelow_r2 R l needs parent classv I_ M_ out k H2)

def F_ref18_NeedsBelow (R : Value → Heap → Prop) (l : Sl) (needs : Sl) (parent : Int) (classv : Int) (H : Heap) : Prop :=
  ∃ J_ : Heap → Prop, (
  iteB (decide (parent < (-1 : Int))) (
  R (.slice none 0 0) H) (
  iteB (decide (parent ≥ (l.n : Int))) (
  R (.slice none 0 0) H) (
  iteB (decide (parent ≥ (0 : Int))) (
  0 ≤ parent ∧ parent < (l.n : Int) ∧ (unSome l.p (fun a =>
  ∃ x : Bool, rd H ((a.add (parent.toNat * 11)).add 4) = some (.bool x) ∧ (
  iteB (!x) (
  R (.slice none 0 0) H) (
  J_ H))))) (
  J_ H)))) ∧ (∀ H1 : Heap, J_ H1 → F_ref18_NeedsBelow_k3 R l needs parent classv H1)

theorem F_ref18_NeedsBelow_eq (R : Value → Heap → Prop) (l : Sl) (needs : Sl) (parent : Int) (classv : Int) (H : Heap) : wpF Tryz.prog Tryz.f62 [(9, .slice none 0 0), (10, .int .i64 0), (68, .bool false)] [(4, [], [0, 1, 2, 3, 9]), (9, [68], [0, 1, 2, 3, 9, 10])] [(5, [9, 10], [0, 1, 2, 3])] [20] [.slice l.p l.n l.c, .slice needs.p needs.n needs.c, .int .i64 parent, .int .i64 classv] H R = F_ref18_NeedsBelow R l needs parent classv H := by kernel_rfl

theorem F_ref18_NeedsBelow_ok {R : Value → Heap → Prop} (l : Sl) (needs : Sl) (parent : Int) (classv : Int) {H : Heap} (h : F_ref18_NeedsBelow R l needs parent classv H) : CallsH Tryz.prog n_ref18_NeedsBelow #[.slice l.p l.n l.c, .slice needs.p needs.n needs.c, .int .i64 parent, .int .i64 classv] H R :=
  wpF_ok Tryz.func62 (F_ref18_NeedsBelow_eq R l needs parent classv H) h

/-! ### 63: platformfw/platformfwref21.Place -/

def F_ref21_Place_r1 (sizes : Sl) (H4 : Heap) (k : Int) (left2 : Sl) (i : Int) (J_1 : Bool → Heap → Prop) (I_2 : Bool → Int → Heap → Prop) (M_2 : Bool → Int → Heap → Nat) (found : Bool) (j : Int) (H10 : Heap) : Prop :=
  iteB (decide (j < (left2.n : Int))) (
  iteB (!found) (
  0 ≤ j ∧ j < (left2.n : Int) ∧ (unSome left2.p (fun a1 =>
  ∃ x4 : Int, rd H10 (a1.add (j.toNat * 2)) = some (.int .u64 x4) ∧ (
  CallsH Tryz.prog n_ref21_up #[.int .u64 x4, .int .i64 k] H10 (fun v3 H11 =>
  ∃ atv : Int, v3 = .int .u64 atv ∧ (
  0 ≤ (IntKind.u64.wrap k) ∧ (
  0 ≤ j ∧ j < (left2.n : Int) ∧ (unSome left2.p (fun a2 =>
  ∃ x5 : Int, rd H11 (a2.add (j.toNat * 2)) = some (.int .u64 x5) ∧ (
  0 ≤ j ∧ j < (left2.n : Int) ∧ (unSome left2.p (fun a3 =>
  ∃ x6 : Int, rd H11 ((a3.add (j.toNat * 2)).add 1) = some (.int .u64 x6) ∧ (
  iteB (decide ((IntKind.u64.wrap (atv + (IntKind.u64.wrap ((1 : Int) * 2 ^ (min (IntKind.u64.wrap k).toNat IntKind.u64.bits))))) ≤ (IntKind.u64.wrap (x5 + x6)))) (
  0 ≤ i ∧ i < (((sizes.n : Int).toNat : Nat) : Int) ∧ (okRow H11 ((⟨H4.size, 0, none⟩ : Addr).add (i.toNat * 1)) 1 ∧ (
  letH (wrs H11 ((⟨H4.size, 0, none⟩ : Addr).add (i.toNat * 1)) [.int .u64 atv]) (fun H12 : Heap =>
  letV (IntKind.i64.wrap (j + (1 : Int))) (fun j1 : Int =>
  I_2 true j1 H12 ∧ M_2 true j1 H12 < M_2 found j H10))))) (
  letV (IntKind.i64.wrap (j + (1 : Int))) (fun j2 : Int =>
  I_2 found j2 H11 ∧ M_2 found j2 H11 < M_2 found j H10))))))))))))))) (
  J_1 found H10)) (
  J_1 found H10)

def F_ref21_Place_k2 (R : Value → Heap → Prop) (H : Heap) (free : Sl) (sizes : Sl) (H4 : Heap) (k : Int) (I_1 : Sl → Int → Heap → Prop) (M_1 : Sl → Int → Heap → Nat) (left2 : Sl) (i : Int) (H9 : Heap) (found1 : Bool) (H13 : Heap) : Prop :=
  iteB (!found1) (
  CallsH Tryz.prog n_ref21_refusal #[.slice free.p free.n free.c, .slice sizes.p sizes.n sizes.c] H13 (fun v4 H14 =>
  ∃ x7 : Int, ∃ x8 : Int, ∃ x9 : Int, ∃ x10 : Int, v4 = .agg #[.int .i64 x7, .int .i64 x8, .int .u64 x9, .int .u64 x10] ∧ (
  okRow H14 (⟨H.size, 0, none⟩ : Addr) 4 ∧ (
  letH (wrs H14 (⟨H.size, 0, none⟩ : Addr) [.int .i64 x7, .int .i64 x8, .int .u64 x9, .int .u64 x10]) (fun H15 : Heap =>
  ∃ r4 : Int, rd H15 (⟨H.size, 0, none⟩ : Addr) = some (.int .i64 r4) ∧ ∃ r5 : Int, rd H15 ((⟨H.size, 0, none⟩ : Addr).add 1) = some (.int .i64 r5) ∧ ∃ r6 : Int, rd H15 ((⟨H.size, 0, none⟩ : Addr).add 2) = some (.int .u64 r6) ∧ ∃ r7 : Int, rd H15 ((⟨H.size, 0, none⟩ : Addr).add 3) = some (.int .u64 r7) ∧ (
  R (.tuple #[.slice none 0 0, .agg #[.int .i64 r4, .int .i64 r5, .int .u64 r6, .int .u64 r7], .int .i64 (19 : Int)]) H15)))))) (
  0 ≤ i ∧ i < (((sizes.n : Int).toNat : Nat) : Int) ∧ (∃ x11 : Int, rd H13 ((⟨H4.size, 0, none⟩ : Addr).add (i.toNat * 1)) = some (.int .u64 x11) ∧ (
  0 ≤ (IntKind.u64.wrap k) ∧ (
  CallsH Tryz.prog n_ref21_remove #[.slice left2.p left2.n left2.c, .agg #[.int .u64 x11, .int .u64 (IntKind.u64.wrap ((1 : Int) * 2 ^ (min (IntKind.u64.wrap k).toNat IntKind.u64.bits)))]] H13 (fun v5 H16 =>
  ∃ left3 : Sl, v5 = .slice left3.p left3.n left3.c ∧ (
  letV (IntKind.i64.wrap (i + (1 : Int))) (fun i2 : Int =>
  I_1 left3 i2 H16 ∧ M_1 left3 i2 H16 < M_1 left2 i H9)))))))

def F_ref21_Place_r3 (R : Value → Heap → Prop) (H : Heap) (free : Sl) (sizes : Sl) (H4 : Heap) (I_ : Sl → Int → Heap → Prop) (M_ : Sl → Int → Heap → Nat) (left1 : Sl) (k : Int) (H8 : Heap) (I_1 : Sl → Int → Heap → Prop) (M_1 : Sl → Int → Heap → Nat) (left2 : Sl) (i : Int) (H9 : Heap) : Prop :=
  iteB (decide (i < (sizes.n : Int))) (
  0 ≤ i ∧ i < (sizes.n : Int) ∧ (unSome sizes.p (fun a =>
  ∃ x3 : Int, rd H9 (a.add (i.toNat * 1)) = some (.int .i64 x3) ∧ (
  iteB (x3 != k) (
  letV (IntKind.i64.wrap (i + (1 : Int))) (fun i1 : Int =>
  I_1 left2 i1 H9 ∧ M_1 left2 i1 H9 < M_1 left2 i H9)) (
  ∃ J_1 : Bool → Heap → Prop, (
  ∃ I_2 : Bool → Int → Heap → Prop, ∃ M_2 : Bool → Int → Heap → Nat, I_2 false (0 : Int) H9 ∧ (∀ found : Bool, ∀ j : Int, ∀ H10 : Heap, I_2 found j H10 → F_ref21_Place_r1 sizes H4 k left2 i J_1 I_2 M_2 found j H10)) ∧ (∀ found1 : Bool, ∀ H13 : Heap, J_1 found1 H13 → F_ref21_Place_k2 R H free sizes H4 k I_1 M_1 left2 i H9 found1 H13)))))) (
  letV (IntKind.i64.wrap (k - (1 : Int))) (fun k1 : Int =>
  I_ left2 k1 H9 ∧ M_ left2 k1 H9 < M_ left1 k H8))

def F_ref21_Place_r4 (R : Value → Heap → Prop) (H : Heap) (free : Sl) (sizes : Sl) (H4 : Heap) (I_ : Sl → Int → Heap → Prop) (M_ : Sl → Int → Heap → Nat) (left1 : Sl) (k : Int) (H8 : Heap) : Prop :=
  iteB (decide (k ≥ (0 : Int))) (
  ∃ I_1 : Sl → Int → Heap → Prop, ∃ M_1 : Sl → Int → Heap → Nat, I_1 left1 (0 : Int) H8 ∧ (∀ left2 : Sl, ∀ i : Int, ∀ H9 : Heap, I_1 left2 i H9 → F_ref21_Place_r3 R H free sizes H4 I_ M_ left1 k H8 I_1 M_1 left2 i H9)) (
  okRow H8 (⟨H.size, 0, none⟩ : Addr) 4 ∧ (
  letH (wrs H8 (⟨H.size, 0, none⟩ : Addr) [.int .i64 (0 : Int), .int .i64 (0 : Int), .int .u64 (0 : Int), .int .u64 (0 : Int)]) (fun H17 : Heap =>
  ∃ r8 : Int, rd H17 (⟨H.size, 0, none⟩ : Addr) = some (.int .i64 r8) ∧ ∃ r9 : Int, rd H17 ((⟨H.size, 0, none⟩ : Addr).add 1) = some (.int .i64 r9) ∧ ∃ r10 : Int, rd H17 ((⟨H.size, 0, none⟩ : Addr).add 2) = some (.int .u64 r10) ∧ ∃ r11 : Int, rd H17 ((⟨H.size, 0, none⟩ : Addr).add 3) = some (.int .u64 r11) ∧ (
  R (.tuple #[.slice (some (⟨H4.size, 0, none⟩ : Addr)) ((sizes.n : Int).toNat) ((sizes.n : Int).toNat), .agg #[.int .i64 r8, .int .i64 r9, .int .u64 r10, .int .u64 r11], .int .i64 (0 : Int)]) H17))))

def F_ref21_Place_k5 (R : Value → Heap → Prop) (H : Heap) (free : Sl) (sizes : Sl) (x2 : Bool) (H4 : Heap) : Prop :=
  iteB x2 (
  okRow H4 (⟨H.size, 0, none⟩ : Addr) 4 ∧ (
  letH (wrs H4 (⟨H.size, 0, none⟩ : Addr) [.int .i64 (0 : Int), .int .i64 (0 : Int), .int .u64 (0 : Int), .int .u64 (0 : Int)]) (fun H5 : Heap =>
  ∃ r : Int, rd H5 (⟨H.size, 0, none⟩ : Addr) = some (.int .i64 r) ∧ ∃ r1 : Int, rd H5 ((⟨H.size, 0, none⟩ : Addr).add 1) = some (.int .i64 r1) ∧ ∃ r2 : Int, rd H5 ((⟨H.size, 0, none⟩ : Addr).add 2) = some (.int .u64 r2) ∧ ∃ r3 : Int, rd H5 ((⟨H.size, 0, none⟩ : Addr).add 3) = some (.int .u64 r3) ∧ (
  R (.tuple #[.slice none 0 0, .agg #[.int .i64 r, .int .i64 r1, .int .u64 r2, .int .u64 r3], .int .i64 (1 : Int)]) H5)))) (
  0 ≤ (sizes.n : Int) ∧ (sizes.n : Int) ≤ (sizes.n : Int) ∧ (sizes.n : Int) * ((8 : Nat) : Int) ≤ 281474976710656 ∧ (
  letH (H4.push (.cells (zeroRow (.int .u64 (0 : Int)) (sizes.n : Int).toNat) t_uint64 (0, 0))) (fun H6 : Heap =>
  CallsH Tryz.prog n_ref21_merge #[.slice free.p free.n free.c] H6 (fun v2 H7 =>
  ∃ left : Sl, v2 = .slice left.p left.n left.c ∧ (
  ∃ I_ : Sl → Int → Heap → Prop, ∃ M_ : Sl → Int → Heap → Nat, I_ left (44 : Int) H7 ∧ (∀ left1 : Sl, ∀ k : Int, ∀ H8 : Heap, I_ left1 k H8 → F_ref21_Place_r4 R H free sizes H4 I_ M_ left1 k H8))))))

def F_ref21_Place (R : Value → Heap → Prop) (free : Sl) (sizes : Sl) (H : Heap) : Prop :=
  letH (H.push (.cells #[.int .i64 (0 : Int), .int .i64 (0 : Int), .int .u64 (0 : Int), .int .u64 (0 : Int)] t_api_Certificate (0, 0))) (fun H1 : Heap =>
  ∃ J_ : Bool → Heap → Prop, (
  CallsH Tryz.prog n_ref21_ValidRanges #[.slice free.p free.n free.c] H1 (fun v H2 =>
  ∃ x : Bool, v = .bool x ∧ (
  iteB (!x) (
  J_ true H2) (
  CallsH Tryz.prog n_ref21_items #[.slice sizes.p sizes.n sizes.c] H2 (fun v1 H3 =>
  ∃ x1 : Bool, v1 = .bool x1 ∧ (
  J_ (!x1) H3)))))) ∧ (∀ x2 : Bool, ∀ H4 : Heap, J_ x2 H4 → F_ref21_Place_k5 R H free sizes x2 H4))

theorem F_ref21_Place_eq (R : Value → Heap → Prop) (free : Sl) (sizes : Sl) (H : Heap) : wpF Tryz.prog Tryz.f63 [(8, .slice none 0 0), (9, .int .i64 0), (10, .int .i64 0), (11, .bool false), (12, .int .i64 0), (21, .bool false)] [(2, [21], [0, 1, 5]), (19, [11], [0, 1, 5, 7, 8, 9, 10])] [(6, [8, 9], [0, 1, 5, 7]), (9, [8, 10], [0, 1, 5, 7, 9]), (14, [11, 12], [0, 1, 5, 7, 8, 9, 10])] [20] [.slice free.p free.n free.c, .slice sizes.p sizes.n sizes.c] H R = F_ref21_Place R free sizes H := by kernel_rfl

theorem F_ref21_Place_ok {R : Value → Heap → Prop} (free : Sl) (sizes : Sl) {H : Heap} (h : F_ref21_Place R free sizes H) : CallsH Tryz.prog n_ref21_Place #[.slice free.p free.n free.c, .slice sizes.p sizes.n sizes.c] H R :=
  wpF_ok Tryz.func63 (F_ref21_Place_eq R free sizes H) h

/-! ### 64: platformfw/platformfwref21.Free -/

def F_ref21_Free_r1 (R : Value → Heap → Prop) (fixed : Sl) (I_ : Sl → Int → Heap → Prop) (M_ : Sl → Int → Heap → Nat) (free1 : Sl) (i : Int) (H4 : Heap) : Prop :=
  iteB (decide (i < (fixed.n : Int))) (
  0 ≤ i ∧ i < (fixed.n : Int) ∧ (unSome fixed.p (fun a =>
  ∃ x2 : Int, rd H4 (a.add (i.toNat * 2)) = some (.int .u64 x2) ∧ ∃ x3 : Int, rd H4 ((a.add (i.toNat * 2)).add 1) = some (.int .u64 x3) ∧ (
  CallsH Tryz.prog n_ref21_remove #[.slice free1.p free1.n free1.c, .agg #[.int .u64 x2, .int .u64 x3]] H4 (fun v3 H5 =>
  ∃ free2 : Sl, v3 = .slice free2.p free2.n free2.c ∧ (
  letV (IntKind.i64.wrap (i + (1 : Int))) (fun i1 : Int =>
  I_ free2 i1 H5 ∧ M_ free2 i1 H5 < M_ free1 i H4))))))) (
  R (.slice free1.p free1.n free1.c) H4)

def F_ref21_Free (R : Value → Heap → Prop) (l : Sl) (fixed : Sl) (H : Heap) : Prop :=
  CallsH Tryz.prog n_ref21_ValidRanges #[.slice l.p l.n l.c] H (fun v H1 =>
  ∃ x : Bool, v = .bool x ∧ (
  iteB (!x) (
  R (.slice none 0 0) H1) (
  CallsH Tryz.prog n_ref21_ValidRanges #[.slice fixed.p fixed.n fixed.c] H1 (fun v1 H2 =>
  ∃ x1 : Bool, v1 = .bool x1 ∧ (
  iteB (!x1) (
  R (.slice none 0 0) H2) (
  CallsH Tryz.prog n_ref21_merge #[.slice l.p l.n l.c] H2 (fun v2 H3 =>
  ∃ free : Sl, v2 = .slice free.p free.n free.c ∧ (
  ∃ I_ : Sl → Int → Heap → Prop, ∃ M_ : Sl → Int → Heap → Nat, I_ free (0 : Int) H3 ∧ (∀ free1 : Sl, ∀ i : Int, ∀ H4 : Heap, I_ free1 i H4 → F_ref21_Free_r1 R fixed I_ M_ free1 i H4)))))))))

theorem F_ref21_Free_eq (R : Value → Heap → Prop) (l : Sl) (fixed : Sl) (H : Heap) : wpF Tryz.prog Tryz.f64 [(5, .slice none 0 0), (6, .int .i64 0)] [] [(5, [5, 6], [1])] [20] [.slice l.p l.n l.c, .slice fixed.p fixed.n fixed.c] H R = F_ref21_Free R l fixed H := by kernel_rfl

theorem F_ref21_Free_ok {R : Value → Heap → Prop} (l : Sl) (fixed : Sl) {H : Heap} (h : F_ref21_Free R l fixed H) : CallsH Tryz.prog n_ref21_Free #[.slice l.p l.n l.c, .slice fixed.p fixed.n fixed.c] H R :=
  wpF_ok Tryz.func64 (F_ref21_Free_eq R l fixed H) h

/-! ### 65: platformfw/platformfwref21.ValidRanges -/

def F_ref21_ValidRanges_r1 (R : Value → Heap → Prop) (l : Sl) (I_ : Int → Heap → Prop) (M_ : Int → Heap → Nat) (i : Int) (H1 : Heap) : Prop :=
  iteB (decide (i < (l.n : Int))) (
  0 ≤ i ∧ i < (l.n : Int) ∧ (unSome l.p (fun a =>
  ∃ x : Int, rd H1 ((a.add (i.toNat * 2)).add 1) = some (.int .u64 x) ∧ (
  iteB (decide (x < (1 : Int))) (
  R (.bool false) H1) (
  0 ≤ i ∧ i < (l.n : Int) ∧ (unSome l.p (fun a1 =>
  ∃ x1 : Int, rd H1 ((a1.add (i.toNat * 2)).add 1) = some (.int .u64 x1) ∧ (
  iteB (decide (x1 > (4503599627370496 : Int))) (
  R (.bool false) H1) (
  0 ≤ i ∧ i < (l.n : Int) ∧ (unSome l.p (fun a2 =>
  ∃ x2 : Int, rd H1 (a2.add (i.toNat * 2)) = some (.int .u64 x2) ∧ (
  0 ≤ i ∧ i < (l.n : Int) ∧ (unSome l.p (fun a3 =>
  ∃ x3 : Int, rd H1 ((a3.add (i.toNat * 2)).add 1) = some (.int .u64 x3) ∧ (
  iteB (decide (x2 > (IntKind.u64.wrap ((4503599627370496 : Int) - x3)))) (
  R (.bool false) H1) (
  letV (IntKind.i64.wrap (i + (1 : Int))) (fun i1 : Int =>
  I_ i1 H1 ∧ M_ i1 H1 < M_ i H1))))))))))))))))) (
  R (.bool true) H1)

def F_ref21_ValidRanges (R : Value → Heap → Prop) (l : Sl) (H : Heap) : Prop :=
  iteB (decide ((l.n : Int) > (1024 : Int))) (
  R (.bool false) H) (
  ∃ I_ : Int → Heap → Prop, ∃ M_ : Int → Heap → Nat, I_ (0 : Int) H ∧ (∀ i : Int, ∀ H1 : Heap, I_ i H1 → F_ref21_ValidRanges_r1 R l I_ M_ i H1))

theorem F_ref21_ValidRanges_eq (R : Value → Heap → Prop) (l : Sl) (H : Heap) : wpF Tryz.prog Tryz.f65 [(3, .int .i64 0)] [] [(4, [3], [0])] [20] [.slice l.p l.n l.c] H R = F_ref21_ValidRanges R l H := by kernel_rfl

theorem F_ref21_ValidRanges_ok {R : Value → Heap → Prop} (l : Sl) {H : Heap} (h : F_ref21_ValidRanges R l H) : CallsH Tryz.prog n_ref21_ValidRanges #[.slice l.p l.n l.c] H R :=
  wpF_ok Tryz.func65 (F_ref21_ValidRanges_eq R l H) h

/-! ### 66: platformfw/allocate.placeable -/

def F_allocate_placeable_r1 (R : Value → Heap → Prop) (sizes : Sl) (I_ : Int → Heap → Prop) (M_ : Int → Heap → Nat) (x1 : Int) (H2 : Heap) : Prop :=
  iteB (decide (x1 < (sizes.n : Int))) (
  0 ≤ x1 ∧ x1 < (sizes.n : Int) ∧ (unSome sizes.p (fun a =>
  ∃ size : Int, rd H2 (a.add (x1.toNat * 1)) = some (.int .i64 size) ∧ (
  iteB (decide (size < (0 : Int))) (
  R (.bool false) H2) (
  iteB (decide (size > (44 : Int))) (
  R (.bool false) H2) (
  I_ (IntKind.i64.wrap (x1 + (1 : Int))) H2 ∧ M_ (IntKind.i64.wrap (x1 + (1 : Int))) H2 < M_ x1 H2)))))) (
  R (.bool true) H2)

def F_allocate_placeable (R : Value → Heap → Prop) (free : Sl) (sizes : Sl) (H : Heap) : Prop :=
  CallsH Tryz.prog n_allocate_validRanges #[.slice free.p free.n free.c] H (fun v H1 =>
  ∃ x : Bool, v = .bool x ∧ (
  iteB (!x) (
  R (.bool false) H1) (
  iteB (decide ((sizes.n : Int) > (1024 : Int))) (
  R (.bool false) H1) (
  ∃ I_ : Int → Heap → Prop, ∃ M_ : Int → Heap → Nat, I_ (0 : Int) H1 ∧ (∀ x1 : Int, ∀ H2 : Heap, I_ x1 H2 → F_allocate_placeable_r1 R sizes I_ M_ x1 H2)))))

theorem F_allocate_placeable_eq (R : Value → Heap → Prop) (free : Sl) (sizes : Sl) (H : Heap) : wpF Tryz.prog Tryz.f66 [(17, .int .i64 0)] [] [(4, [17], [15, 16])] [20] [.slice free.p free.n free.c, .slice sizes.p sizes.n sizes.c] H R = F_allocate_placeable R free sizes H := by kernel_rfl

theorem F_allocate_placeable_ok {R : Value → Heap → Prop} (free : Sl) (sizes : Sl) {H : Heap} (h : F_allocate_placeable R free sizes H) : CallsH Tryz.prog n_allocate_placeable #[.slice free.p free.n free.c, .slice sizes.p sizes.n sizes.c] H R :=
  wpF_ok Tryz.func66 (F_allocate_placeable_eq R free sizes H) h

/-! ### 67: slices.SortStableFunc[[]int,int] -/

def F_slices_SortStableFunc_sl_int_int (R : Value → Heap → Prop) (x : Sl) (cap : Addr) (H : Heap) : Prop :=
  CallsH Tryz.prog n_slices_stableCmpFunc_int #[.slice x.p x.n x.c, .int .i64 (x.n : Int), .func (.func 68) #[] #[.pointer (some cap)]] H (fun v H1 =>
  v = .tuple #[] ∧ (
  R (.tuple #[]) H1))

theorem F_slices_SortStableFunc_sl_int_int_eq (R : Value → Heap → Prop) (x : Sl) (cap : Addr) (H : Heap) : wpF Tryz.prog Tryz.f67 [] [] [] [20] [.slice x.p x.n x.c, .func (.func 68) #[] #[.pointer (some cap)]] H R = F_slices_SortStableFunc_sl_int_int R x cap H := by kernel_rfl

theorem F_slices_SortStableFunc_sl_int_int_ok {R : Value → Heap → Prop} (x : Sl) (cap : Addr) {H : Heap} (h : F_slices_SortStableFunc_sl_int_int R x cap H) : CallsH Tryz.prog n_slices_SortStableFunc_sl_int_int #[.slice x.p x.n x.c, .func (.func 68) #[] #[.pointer (some cap)]] H R :=
  wpF_ok Tryz.func67 (F_slices_SortStableFunc_sl_int_int_eq R x cap H) h

/-! ### 68: platformfw/allocate.Place$1 -/

def F_allocate_Place_1 (R : Value → Heap → Prop) (a : Int) (b : Int) (cap0 : Addr) (H : Heap) : Prop :=
  ∃ x : Sl, rd H cap0 = some (.slice x.p x.n x.c) ∧ (
  0 ≤ b ∧ b < (x.n : Int) ∧ (unSome x.p (fun a1 =>
  ∃ x1 : Int, rd H (a1.add (b.toNat * 1)) = some (.int .i64 x1) ∧ (
  ∃ x2 : Sl, rd H cap0 = some (.slice x2.p x2.n x2.c) ∧ (
  0 ≤ a ∧ a < (x2.n : Int) ∧ (unSome x2.p (fun a2 =>
  ∃ x3 : Int, rd H (a2.add (a.toNat * 1)) = some (.int .i64 x3) ∧ (
  CallsH Tryz.prog n_cmp_Compare_int #[.int .i64 x1, .int .i64 x3] H (fun v H1 =>
  ∃ x4 : Int, v = .int .i64 x4 ∧ (
  R (.int .i64 x4) H1))))))))))

theorem F_allocate_Place_1_eq (R : Value → Heap → Prop) (a : Int) (b : Int) (cap0 : Addr) (H : Heap) : wpF Tryz.prog Tryz.f68 [] [] [] [20] [.int .i64 a, .int .i64 b, .pointer (some cap0)] H R = F_allocate_Place_1 R a b cap0 H := by kernel_rfl

theorem F_allocate_Place_1_ok {R : Value → Heap → Prop} (a : Int) (b : Int) (cap0 : Addr) {H : Heap} (h : F_allocate_Place_1 R a b cap0 H) : CallsH Tryz.prog n_allocate_Place_1 #[.int .i64 a, .int .i64 b, .pointer (some cap0)] H R :=
  wpF_ok Tryz.func68 (F_allocate_Place_1_eq R a b cap0 H) h

/-! ### 69: cmp.Compare[int] -/

def F_cmp_Compare_int (R : Value → Heap → Prop) (x : Int) (y : Int) (H : Heap) : Prop :=
  CallsH Tryz.prog n_cmp_isNaN_int #[.int .i64 x] H (fun v H1 =>
  ∃ xNaN : Bool, v = .bool xNaN ∧ (
  CallsH Tryz.prog n_cmp_isNaN_int #[.int .i64 y] H1 (fun v1 H2 =>
  ∃ yNaN : Bool, v1 = .bool yNaN ∧ (
  iteB xNaN (
  iteB yNaN (
  R (.int .i64 (0 : Int)) H2) (
  R (.int .i64 (-1 : Int)) H2)) (
  iteB yNaN (
  R (.int .i64 (1 : Int)) H2) (
  iteB (decide (x < y)) (
  R (.int .i64 (-1 : Int)) H2) (
  iteB (decide (x > y)) (
  R (.int .i64 (1 : Int)) H2) (
  R (.int .i64 (0 : Int)) H2))))))))

theorem F_cmp_Compare_int_eq (R : Value → Heap → Prop) (x : Int) (y : Int) (H : Heap) : wpF Tryz.prog Tryz.f69 [] [] [] [20] [.int .i64 x, .int .i64 y] H R = F_cmp_Compare_int R x y H := by kernel_rfl

theorem F_cmp_Compare_int_ok {R : Value → Heap → Prop} (x : Int) (y : Int) {H : Heap} (h : F_cmp_Compare_int R x y H) : CallsH Tryz.prog n_cmp_Compare_int #[.int .i64 x, .int .i64 y] H R :=
  wpF_ok Tryz.func69 (F_cmp_Compare_int_eq R x y H) h

/-! ### 70: platformfw/allocate.merged -/

def F_allocate_merged_k1 (I_ : Sl → Int → Heap → Prop) (M_ : Sl → Int → Heap → Nat) (result : Sl) (x : Int) (H3 : Heap) (k : Int) (x6 : Bool) (H6 : Heap) : Prop :=
  iteB x6 (
  0 ≤ k ∧ k < (result.n : Int) ∧ (unSome result.p (fun a3 =>
  ∃ x7 : Int, rd H6 ((a3.add (k.toNat * 2)).add 1) = some (.int .u64 x7) ∧ (
  ∃ x8 : Int, rd H6 (⟨H3.size, 0, none⟩ : Addr) = some (.int .u64 x8) ∧ (
  ∃ x9 : Int, rd H6 ((⟨H3.size, 0, none⟩ : Addr).add 1) = some (.int .u64 x9) ∧ (
  0 ≤ k ∧ k < (result.n : Int) ∧ (unSome result.p (fun a4 =>
  ∃ x10 : Int, rd H6 (a4.add (k.toNat * 2)) = some (.int .u64 x10) ∧ (
  0 ≤ k ∧ k < (result.n : Int) ∧ (unSome result.p (fun a5 =>
  okRow H6 ((a5.add (k.toNat * 2)).add 1) 1 ∧ (
  letH (wrs H6 ((a5.add (k.toNat * 2)).add 1) [.int .u64 (if (IntKind.u64.wrap ((IntKind.u64.wrap (x8 + x9)) - x10)) > x7 then (IntKind.u64.wrap ((IntKind.u64.wrap (x8 + x9)) - x10)) else x7)]) (fun H7 : Heap =>
  I_ result (IntKind.i64.wrap (x + (1 : Int))) H7 ∧ M_ result (IntKind.i64.wrap (x + (1 : Int))) H7 < M_ result x H3))))))))))))) (
  ∃ x11 : Int, rd H6 (⟨H3.size, 0, none⟩ : Addr) = some (.int .u64 x11) ∧ ∃ x12 : Int, rd H6 ((⟨H3.size, 0, none⟩ : Addr).add 1) = some (.int .u64 x12) ∧ (
  letH (H6.push (.cells #[.int .u64 x11, .int .u64 x12] t_api_Range (0, 0))) (fun H8 : Heap =>
  runH Tryz.prog (Builtin.append_ #[t_sl_api_Range, t_sl_api_Range] t_sl_api_Range #[.slice result.p result.n result.c, .slice (some (⟨H6.size, 0, none⟩ : Addr)) 1 1]) H8 (fun v2 H9 =>
  ∃ result1 : Sl, v2 = .slice result1.p result1.n result1.c ∧ (
  I_ result1 (IntKind.i64.wrap (x + (1 : Int))) H9 ∧ M_ result1 (IntKind.i64.wrap (x + (1 : Int))) H9 < M_ result x H3)))))

def F_allocate_merged_r2 (R : Value → Heap → Prop) (sorted : Sl) (I_ : Sl → Int → Heap → Prop) (M_ : Sl → Int → Heap → Nat) (result : Sl) (x : Int) (H3 : Heap) : Prop :=
  iteB (decide (x < (sorted.n : Int))) (
  0 ≤ x ∧ x < (sorted.n : Int) ∧ (unSome sorted.p (fun a =>
  ∃ x1 : Int, rd H3 (a.add (x.toNat * 2)) = some (.int .u64 x1) ∧ ∃ x2 : Int, rd H3 ((a.add (x.toNat * 2)).add 1) = some (.int .u64 x2) ∧ (
  letH (H3.push (.cells #[.int .u64 (0 : Int), .int .u64 (0 : Int)] t_api_Range (0, 0))) (fun H4 : Heap =>
  okRow H4 (⟨H3.size, 0, none⟩ : Addr) 2 ∧ (
  letH (wrs H4 (⟨H3.size, 0, none⟩ : Addr) [.int .u64 x1, .int .u64 x2]) (fun H5 : Heap =>
  letV (IntKind.i64.wrap ((result.n : Int) - (1 : Int))) (fun k : Int =>
  ∃ J_ : Bool → Heap → Prop, (
  iteB (decide (k ≥ (0 : Int))) (
  ∃ x3 : Int, rd H5 (⟨H3.size, 0, none⟩ : Addr) = some (.int .u64 x3) ∧ (
  0 ≤ k ∧ k < (result.n : Int) ∧ (unSome result.p (fun a1 =>
  ∃ x4 : Int, rd H5 (a1.add (k.toNat * 2)) = some (.int .u64 x4) ∧ (
  0 ≤ k ∧ k < (result.n : Int) ∧ (unSome result.p (fun a2 =>
  ∃ x5 : Int, rd H5 ((a2.add (k.toNat * 2)).add 1) = some (.int .u64 x5) ∧ (
  J_ (decide (x3 ≤ (IntKind.u64.wrap (x4 + x5)))) H5)))))))) (
  J_ false H5)) ∧ (∀ x6 : Bool, ∀ H6 : Heap, J_ x6 H6 → F_allocate_merged_k1 I_ M_ result x H3 k x6 H6))))))))) (
  R (.slice result.p result.n result.c) H3)

def F_allocate_merged (R : Value → Heap → Prop) (l : Sl) (H : Heap) : Prop :=
  CallsH Tryz.prog n_slices_Clone_sl_api_Range_api_Range #[.slice l.p l.n l.c] H (fun v H1 =>
  ∃ sorted : Sl, v = .slice sorted.p sorted.n sorted.c ∧ (
  CallsH Tryz.prog n_slices_SortFunc_sl_api_Range_api_Range #[.slice sorted.p sorted.n sorted.c, .func (.func 93) #[] #[]] H1 (fun v1 H2 =>
  v1 = .tuple #[] ∧ (
  ∃ I_ : Sl → Int → Heap → Prop, ∃ M_ : Sl → Int → Heap → Nat, I_ (Sl.mk none 0 0) (0 : Int) H2 ∧ (∀ result : Sl, ∀ x : Int, ∀ H3 : Heap, I_ result x H3 → F_allocate_merged_r2 R sorted I_ M_ result x H3)))))

theorem F_allocate_merged_eq (R : Value → Heap → Prop) (l : Sl) (H : Heap) : wpF Tryz.prog Tryz.f70 [(4, .slice none 0 0), (14, .int .i64 0), (38, .bool false)] [(9, [38], [4, 6, 7, 12, 13, 14])] [(5, [4, 14], [12, 13])] [20] [.slice l.p l.n l.c] H R = F_allocate_merged R l H := by kernel_rfl

theorem F_allocate_merged_ok {R : Value → Heap → Prop} (l : Sl) {H : Heap} (h : F_allocate_merged R l H) : CallsH Tryz.prog n_allocate_merged #[.slice l.p l.n l.c] H R :=
  wpF_ok Tryz.func70 (F_allocate_merged_eq R l H) h

/-! ### 71: platformfw/allocate.take -/

def F_allocate_take_k1 (R : Value → Heap → Prop) (l : Sl) (x : Int) (base : Int) (parts3 : Sl) (H9 : Heap) : Prop :=
  CallsH Tryz.prog n_slices_Replace_sl_api_Range_api_Range #[.slice l.p l.n l.c, .int .i64 x, .int .i64 (IntKind.i64.wrap (x + (1 : Int))), .slice parts3.p parts3.n parts3.c] H9 (fun v2 H10 =>
  ∃ x9 : Sl, v2 = .slice x9.p x9.n x9.c ∧ (
  R (.tuple #[.int .u64 base, .slice x9.p x9.n x9.c, .bool true]) H10))

def F_allocate_take_k2 (R : Value → Heap → Prop) (l : Sl) (size : Int) (x : Int) (base : Int) (endv : Int) (parts1 : Sl) (H6 : Heap) : Prop :=
  ∃ J_1 : Sl → Heap → Prop, (
  iteB (decide ((IntKind.u64.wrap (base + size)) < endv)) (
  letH (H6.push (.cells #[.int .u64 (IntKind.u64.wrap (base + size)), .int .u64 (IntKind.u64.wrap ((IntKind.u64.wrap (endv - base)) - size))] t_api_Range (0, 0))) (fun H7 : Heap =>
  runH Tryz.prog (Builtin.append_ #[t_sl_api_Range, t_sl_api_Range] t_sl_api_Range #[.slice parts1.p parts1.n parts1.c, .slice (some (⟨H6.size, 0, none⟩ : Addr)) 1 1]) H7 (fun v1 H8 =>
  ∃ parts2 : Sl, v1 = .slice parts2.p parts2.n parts2.c ∧ (
  J_1 parts2 H8)))) (
  J_1 parts1 H6)) ∧ (∀ parts3 : Sl, ∀ H9 : Heap, J_1 parts3 H9 → F_allocate_take_k1 R l x base parts3 H9)

def F_allocate_take_r3 (R : Value → Heap → Prop) (l : Sl) (k : Int) (size : Int) (I_ : Int → Heap → Prop) (M_ : Int → Heap → Nat) (x : Int) (H1 : Heap) : Prop :=
  iteB (decide (x < (l.n : Int))) (
  0 ≤ x ∧ x < (l.n : Int) ∧ (unSome l.p (fun a =>
  ∃ x1 : Int, rd H1 (a.add (x.toNat * 2)) = some (.int .u64 x1) ∧ ∃ x2 : Int, rd H1 ((a.add (x.toNat * 2)).add 1) = some (.int .u64 x2) ∧ (
  letH (H1.push (.cells #[.int .u64 (0 : Int), .int .u64 (0 : Int)] t_api_Range (0, 0))) (fun H2 : Heap =>
  okRow H2 (⟨H1.size, 0, none⟩ : Addr) 2 ∧ (
  letH (wrs H2 (⟨H1.size, 0, none⟩ : Addr) [.int .u64 x1, .int .u64 x2]) (fun H3 : Heap =>
  ∃ x3 : Int, rd H3 (⟨H1.size, 0, none⟩ : Addr) = some (.int .u64 x3) ∧ (
  0 ≤ k ∧ (
  0 ≤ k ∧ (
  letV (IntKind.u64.wrap (((IntKind.u64.wrap ((IntKind.u64.wrap (x3 + size)) - (1 : Int))).fdiv (2 ^ (min k.toNat IntKind.u64.bits))) * 2 ^ (min k.toNat IntKind.u64.bits))) (fun base : Int =>
  ∃ x4 : Int, rd H3 (⟨H1.size, 0, none⟩ : Addr) = some (.int .u64 x4) ∧ (
  ∃ x5 : Int, rd H3 ((⟨H1.size, 0, none⟩ : Addr).add 1) = some (.int .u64 x5) ∧ (
  letV (IntKind.u64.wrap (x4 + x5)) (fun endv : Int =>
  iteB (decide (base ≥ endv)) (
  I_ (IntKind.i64.wrap (x + (1 : Int))) H3 ∧ M_ (IntKind.i64.wrap (x + (1 : Int))) H3 < M_ x H1) (
  iteB (decide ((IntKind.u64.wrap (endv - base)) < size)) (
  I_ (IntKind.i64.wrap (x + (1 : Int))) H3 ∧ M_ (IntKind.i64.wrap (x + (1 : Int))) H3 < M_ x H1) (
  ∃ J_ : Sl → Heap → Prop, (
  ∃ x6 : Int, rd H3 (⟨H1.size, 0, none⟩ : Addr) = some (.int .u64 x6) ∧ (
  iteB (decide (base > x6)) (
  ∃ x7 : Int, rd H3 (⟨H1.size, 0, none⟩ : Addr) = some (.int .u64 x7) ∧ (
  ∃ x8 : Int, rd H3 (⟨H1.size, 0, none⟩ : Addr) = some (.int .u64 x8) ∧ (
  letH (H3.push (.cells #[.int .u64 x7, .int .u64 (IntKind.u64.wrap (base - x8))] t_api_Range (0, 0))) (fun H4 : Heap =>
  runH Tryz.prog (Builtin.append_ #[t_sl_api_Range, t_sl_api_Range] t_sl_api_Range #[.slice none 0 0, .slice (some (⟨H3.size, 0, none⟩ : Addr)) 1 1]) H4 (fun v H5 =>
  ∃ parts : Sl, v = .slice parts.p parts.n parts.c ∧ (
  J_ parts H5)))))) (
  J_ (Sl.mk none 0 0) H3))) ∧ (∀ parts1 : Sl, ∀ H6 : Heap, J_ parts1 H6 → F_allocate_take_k2 R l size x base endv parts1 H6))))))))))))))))) (
  R (.tuple #[.int .u64 (0 : Int), .slice l.p l.n l.c, .bool false]) H1)

def F_allocate_take (R : Value → Heap → Prop) (l : Sl) (k : Int) (H : Heap) : Prop :=
  0 ≤ k ∧ (
  letV (IntKind.u64.wrap ((1 : Int) * 2 ^ (min k.toNat IntKind.u64.bits))) (fun size : Int =>
  ∃ I_ : Int → Heap → Prop, ∃ M_ : Int → Heap → Nat, I_ (0 : Int) H ∧ (∀ x : Int, ∀ H1 : Heap, I_ x H1 → F_allocate_take_r3 R l k size I_ M_ x H1)))

theorem F_allocate_take_eq (R : Value → Heap → Prop) (l : Sl) (k : Int) (H : Heap) : wpF Tryz.prog Tryz.f71 [(12, .slice none 0 0), (17, .int .i64 0)] [(11, [12], [0, 7, 8, 10, 11]), (13, [12], [0, 8, 10])] [(3, [17], [0, 1, 7, 15, 16])] [20] [.slice l.p l.n l.c, .int .i64 k] H R = F_allocate_take R l k H := by kernel_rfl

theorem F_allocate_take_ok {R : Value → Heap → Prop} (l : Sl) (k : Int) {H : Heap} (h : F_allocate_take R l k H) : CallsH Tryz.prog n_allocate_take #[.slice l.p l.n l.c, .int .i64 k] H R :=
  wpF_ok Tryz.func71 (F_allocate_take_eq R l k H) h

/-! ### 72: platformfw/allocate.certificate -/

def F_allocate_certificate_r1 (R : Value → Heap → Prop) (H : Heap) (l : Sl) (sizes : Sl) (I_ : Int → Heap → Prop) (M_ : Int → Heap → Nat) (k : Int) (H2 : Heap) : Prop :=
  iteB (decide (k ≥ (0 : Int))) (
  CallsH Tryz.prog n_allocate_demand #[.slice sizes.p sizes.n sizes.c, .int .i64 k] H2 (fun v H3 =>
  ∃ need : Int, v = .int .u64 need ∧ (
  CallsH Tryz.prog n_allocate_countBlocks #[.slice l.p l.n l.c, .int .i64 k] H3 (fun v1 H4 =>
  ∃ blocks : Int, v1 = .int .u64 blocks ∧ (
  0 ≤ k ∧ (
  iteB (decide (need > (IntKind.u64.wrap (blocks * 2 ^ (min k.toNat IntKind.u64.bits))))) (
  okRow H4 (⟨H.size, 0, none⟩ : Addr) 4 ∧ (
  letH (wrs H4 (⟨H.size, 0, none⟩ : Addr) [.int .i64 (0 : Int), .int .i64 k, .int .u64 need, .int .u64 blocks]) (fun H5 : Heap =>
  ∃ r : Int, rd H5 (⟨H.size, 0, none⟩ : Addr) = some (.int .i64 r) ∧ ∃ r1 : Int, rd H5 ((⟨H.size, 0, none⟩ : Addr).add 1) = some (.int .i64 r1) ∧ ∃ r2 : Int, rd H5 ((⟨H.size, 0, none⟩ : Addr).add 2) = some (.int .u64 r2) ∧ ∃ r3 : Int, rd H5 ((⟨H.size, 0, none⟩ : Addr).add 3) = some (.int .u64 r3) ∧ (
  R (.agg #[.int .i64 r, .int .i64 r1, .int .u64 r2, .int .u64 r3]) H5)))) (
  letV (IntKind.i64.wrap (k - (1 : Int))) (fun k1 : Int =>
  I_ k1 H4 ∧ M_ k1 H4 < M_ k H2)))))))) (
  okRow H2 (⟨H.size, 0, none⟩ : Addr) 4 ∧ (
  letH (wrs H2 (⟨H.size, 0, none⟩ : Addr) [.int .i64 (0 : Int), .int .i64 (0 : Int), .int .u64 (0 : Int), .int .u64 (0 : Int)]) (fun H6 : Heap =>
  ∃ r4 : Int, rd H6 (⟨H.size, 0, none⟩ : Addr) = some (.int .i64 r4) ∧ ∃ r5 : Int, rd H6 ((⟨H.size, 0, none⟩ : Addr).add 1) = some (.int .i64 r5) ∧ ∃ r6 : Int, rd H6 ((⟨H.size, 0, none⟩ : Addr).add 2) = some (.int .u64 r6) ∧ ∃ r7 : Int, rd H6 ((⟨H.size, 0, none⟩ : Addr).add 3) = some (.int .u64 r7) ∧ (
  R (.agg #[.int .i64 r4, .int .i64 r5, .int .u64 r6, .int .u64 r7]) H6))))

def F_allocate_certificate (R : Value → Heap → Prop) (l : Sl) (sizes : Sl) (H : Heap) : Prop :=
  letH (H.push (.cells #[.int .i64 (0 : Int), .int .i64 (0 : Int), .int .u64 (0 : Int), .int .u64 (0 : Int)] t_api_Certificate (0, 0))) (fun H1 : Heap =>
  ∃ I_ : Int → Heap → Prop, ∃ M_ : Int → Heap → Nat, I_ (52 : Int) H1 ∧ (∀ k : Int, ∀ H2 : Heap, I_ k H2 → F_allocate_certificate_r1 R H l sizes I_ M_ k H2))

theorem F_allocate_certificate_eq (R : Value → Heap → Prop) (l : Sl) (sizes : Sl) (H : Heap) : wpF Tryz.prog Tryz.f72 [(5, .int .i64 0)] [] [(2, [5], [0, 1, 4])] [20] [.slice l.p l.n l.c, .slice sizes.p sizes.n sizes.c] H R = F_allocate_certificate R l sizes H := by kernel_rfl

theorem F_allocate_certificate_ok {R : Value → Heap → Prop} (l : Sl) (sizes : Sl) {H : Heap} (h : F_allocate_certificate R l sizes H) : CallsH Tryz.prog n_allocate_certificate #[.slice l.p l.n l.c, .slice sizes.p sizes.n sizes.c] H R :=
  wpF_ok Tryz.func72 (F_allocate_certificate_eq R l sizes H) h

/-! ### 73: platformfw/allocate.demand -/

def F_allocate_demand_r1 (R : Value → Heap → Prop) (sizes : Sl) (k : Int) (I_ : Int → Int → Heap → Prop) (M_ : Int → Int → Heap → Nat) (sum : Int) (x : Int) (H1 : Heap) : Prop :=
  iteB (decide (x < (sizes.n : Int))) (
  0 ≤ x ∧ x < (sizes.n : Int) ∧ (unSome sizes.p (fun a =>
  ∃ size : Int, rd H1 (a.add (x.toNat * 1)) = some (.int .i64 size) ∧ (
  iteB (decide (size ≥ k)) (
  0 ≤ size ∧ (
  letV (IntKind.u64.wrap (sum + (IntKind.u64.wrap ((1 : Int) * 2 ^ (min size.toNat IntKind.u64.bits))))) (fun sum1 : Int =>
  I_ sum1 (IntKind.i64.wrap (x + (1 : Int))) H1 ∧ M_ sum1 (IntKind.i64.wrap (x + (1 : Int))) H1 < M_ sum x H1))) (
  I_ sum (IntKind.i64.wrap (x + (1 : Int))) H1 ∧ M_ sum (IntKind.i64.wrap (x + (1 : Int))) H1 < M_ sum x H1))))) (
  R (.int .u64 sum) H1)

def F_allocate_demand (R : Value → Heap → Prop) (sizes : Sl) (k : Int) (H : Heap) : Prop :=
  ∃ I_ : Int → Int → Heap → Prop, ∃ M_ : Int → Int → Heap → Nat, I_ (0 : Int) (0 : Int) H ∧ (∀ sum : Int, ∀ x : Int, ∀ H1 : Heap, I_ sum x H1 → F_allocate_demand_r1 R sizes k I_ M_ sum x H1)

theorem F_allocate_demand_eq (R : Value → Heap → Prop) (sizes : Sl) (k : Int) (H : Heap) : wpF Tryz.prog Tryz.f73 [(5, .int .u64 0), (10, .int .i64 0)] [] [(3, [5, 10], [1, 8, 9])] [20] [.slice sizes.p sizes.n sizes.c, .int .i64 k] H R = F_allocate_demand R sizes k H := by kernel_rfl

theorem F_allocate_demand_ok {R : Value → Heap → Prop} (sizes : Sl) (k : Int) {H : Heap} (h : F_allocate_demand R sizes k H) : CallsH Tryz.prog n_allocate_demand #[.slice sizes.p sizes.n sizes.c, .int .i64 k] H R :=
  wpF_ok Tryz.func73 (F_allocate_demand_eq R sizes k H) h

/-! ### 74: platformfw/allocate.Blocks -/

def F_allocate_Blocks (R : Value → Heap → Prop) (free : Sl) (k : Int) (H : Heap) : Prop :=
  CallsH Tryz.prog n_allocate_validRanges #[.slice free.p free.n free.c] H (fun v H1 =>
  ∃ x : Bool, v = .bool x ∧ (
  iteB (!x) (
  R (.int .u64 (0 : Int)) H1) (
  iteB (decide (k < (0 : Int))) (
  R (.int .u64 (0 : Int)) H1) (
  iteB (decide (k > (52 : Int))) (
  R (.int .u64 (0 : Int)) H1) (
  CallsH Tryz.prog n_allocate_merged #[.slice free.p free.n free.c] H1 (fun v1 H2 =>
  ∃ x1 : Sl, v1 = .slice x1.p x1.n x1.c ∧ (
  CallsH Tryz.prog n_allocate_countBlocks #[.slice x1.p x1.n x1.c, .int .i64 k] H2 (fun v2 H3 =>
  ∃ x2 : Int, v2 = .int .u64 x2 ∧ (
  R (.int .u64 x2) H3)))))))))

theorem F_allocate_Blocks_eq (R : Value → Heap → Prop) (free : Sl) (k : Int) (H : Heap) : wpF Tryz.prog Tryz.f74 [] [] [] [20] [.slice free.p free.n free.c, .int .i64 k] H R = F_allocate_Blocks R free k H := by kernel_rfl

theorem F_allocate_Blocks_ok {R : Value → Heap → Prop} (free : Sl) (k : Int) {H : Heap} (h : F_allocate_Blocks R free k H) : CallsH Tryz.prog n_allocate_Blocks #[.slice free.p free.n free.c, .int .i64 k] H R :=
  wpF_ok Tryz.func74 (F_allocate_Blocks_eq R free k H) h

/-! ### 75: platformfw/platformfwref21.span -/

def F_ref21_span (R : Value → Heap → Prop) (a_0 : Int) (a_1 : Int) (a_2 : Int) (a_3 : Int) (a_4 : Int) (H : Heap) : Prop :=
  letH (H.push (.cells #[.int .i64 a_0, .int .i64 a_1, .int .i64 a_2, .int .i64 a_3, .int .u64 a_4] t_api_Assignment (0, 0))) (fun H1 : Heap =>
  letH (H1.push (.cells #[.int .u64 (0 : Int), .int .u64 (0 : Int)] t_api_Range (0, 0))) (fun H2 : Heap =>
  ∃ x : Int, rd H2 ((⟨H.size, 0, none⟩ : Addr).add 4) = some (.int .u64 x) ∧ (
  ∃ x1 : Int, rd H2 ((⟨H.size, 0, none⟩ : Addr).add 3) = some (.int .i64 x1) ∧ (
  0 ≤ (IntKind.u64.wrap x1) ∧ (
  okRow H2 (⟨H1.size, 0, none⟩ : Addr) 2 ∧ (
  letH (wrs H2 (⟨H1.size, 0, none⟩ : Addr) [.int .u64 x, .int .u64 (IntKind.u64.wrap ((1 : Int) * 2 ^ (min (IntKind.u64.wrap x1).toNat IntKind.u64.bits)))]) (fun H3 : Heap =>
  ∃ r : Int, rd H3 (⟨H1.size, 0, none⟩ : Addr) = some (.int .u64 r) ∧ ∃ r1 : Int, rd H3 ((⟨H1.size, 0, none⟩ : Addr).add 1) = some (.int .u64 r1) ∧ (
  R (.agg #[.int .u64 r, .int .u64 r1]) H3))))))))

theorem F_ref21_span_eq (R : Value → Heap → Prop) (a_0 : Int) (a_1 : Int) (a_2 : Int) (a_3 : Int) (a_4 : Int) (H : Heap) : wpF Tryz.prog Tryz.f75 [] [] [] [20] [.agg #[.int .i64 a_0, .int .i64 a_1, .int .i64 a_2, .int .i64 a_3, .int .u64 a_4]] H R = F_ref21_span R a_0 a_1 a_2 a_3 a_4 H := by kernel_rfl

theorem F_ref21_span_ok {R : Value → Heap → Prop} (a_0 : Int) (a_1 : Int) (a_2 : Int) (a_3 : Int) (a_4 : Int) {H : Heap} (h : F_ref21_span R a_0 a_1 a_2 a_3 a_4 H) : CallsH Tryz.prog n_ref21_span #[.agg #[.int .i64 a_0, .int .i64 a_1, .int .i64 a_2, .int .i64 a_3, .int .u64 a_4]] H R :=
  wpF_ok Tryz.func75 (F_ref21_span_eq R a_0 a_1 a_2 a_3 a_4 H) h

/-! ### 76: platformfw/pciconf.validBar -/

def F_pciconf_validBar_k1 (R : Value → Heap → Prop) (l : Sl) (i : Int) (size : Int) (x1 : Bool) (H1 : Heap) : Prop :=
  iteB x1 (
  iteB (decide (size ≥ (4 : Int))) (
  iteB (decide (size ≤ (40 : Int))) (
  iteB (decide ((IntKind.i64.wrap (i + (1 : Int))) < (l.n : Int))) (
  0 ≤ (IntKind.i64.wrap (i + (1 : Int))) ∧ (IntKind.i64.wrap (i + (1 : Int))) < (l.n : Int) ∧ (unSome l.p (fun a2 =>
  ∃ x2 : Int, rd H1 (a2.add ((IntKind.i64.wrap (i + (1 : Int))).toNat * 2)) = some (.int .i64 x2) ∧ (
  R (.bool (x2 == (0 : Int))) H1)))) (
  R (.bool false) H1)) (
  R (.bool false) H1)) (
  R (.bool false) H1)) (
  R (.bool false) H1)

def F_pciconf_validBar (R : Value → Heap → Prop) (l : Sl) (i : Int) (H : Heap) : Prop :=
  0 ≤ i ∧ i < (l.n : Int) ∧ (unSome l.p (fun a =>
  ∃ size : Int, rd H ((a.add (i.toNat * 2)).add 1) = some (.int .i64 size) ∧ (
  0 ≤ i ∧ i < (l.n : Int) ∧ (unSome l.p (fun a1 =>
  ∃ x : Int, rd H (a1.add (i.toNat * 2)) = some (.int .i64 x) ∧ (
  iteB (x == (0 : Int)) (
  R (.bool (size == (0 : Int))) H) (
  iteB (x == (1 : Int)) (
  iteB (decide (size ≥ (2 : Int))) (
  R (.bool (decide (size ≤ (8 : Int)))) H) (
  R (.bool false) H)) (
  iteB (x == (2 : Int)) (
  iteB (decide (size ≥ (4 : Int))) (
  R (.bool (decide (size ≤ (31 : Int)))) H) (
  R (.bool false) H)) (
  ∃ J_ : Bool → Heap → Prop, (
  iteB (x == (3 : Int)) (
  J_ true H) (
  J_ (x == (4 : Int)) H)) ∧ (∀ x1 : Bool, ∀ H1 : Heap, J_ x1 H1 → F_pciconf_validBar_k1 R l i size x1 H1))))))))))

theorem F_pciconf_validBar_eq (R : Value → Heap → Prop) (l : Sl) (i : Int) (H : Heap) : wpF Tryz.prog Tryz.f76 [(36, .bool false)] [(11, [36], [0, 1, 5])] [] [20] [.slice l.p l.n l.c, .int .i64 i] H R = F_pciconf_validBar R l i H := by kernel_rfl

theorem F_pciconf_validBar_ok {R : Value → Heap → Prop} (l : Sl) (i : Int) {H : Heap} (h : F_pciconf_validBar R l i H) : CallsH Tryz.prog n_pciconf_validBar #[.slice l.p l.n l.c, .int .i64 i] H R :=
  wpF_ok Tryz.func76 (F_pciconf_validBar_eq R l i H) h

/-! ### 77: platformfw/resources.classOf -/

def F_resources_classOf (R : Value → Heap → Prop) (l : Sl) (high : Bool) (function : Int) (kind : Int) (H : Heap) : Prop :=
  iteB (kind == (1 : Int)) (
  R (.int .i64 (0 : Int)) H) (
  iteB (kind == (4 : Int)) (
  iteB high (
  CallsH Tryz.prog n_resources_prefAbove #[.slice l.p l.n l.c, .int .i64 function] H (fun v H1 =>
  ∃ x : Bool, v = .bool x ∧ (
  iteB x (
  R (.int .i64 (2 : Int)) H1) (
  R (.int .i64 (1 : Int)) H1)))) (
  R (.int .i64 (1 : Int)) H)) (
  R (.int .i64 (1 : Int)) H))

theorem F_resources_classOf_eq (R : Value → Heap → Prop) (l : Sl) (high : Bool) (function : Int) (kind : Int) (H : Heap) : wpF Tryz.prog Tryz.f77 [] [] [] [20] [.slice l.p l.n l.c, .bool high, .int .i64 function, .int .i64 kind] H R = F_resources_classOf R l high function kind H := by kernel_rfl

theorem F_resources_classOf_ok {R : Value → Heap → Prop} (l : Sl) (high : Bool) (function : Int) (kind : Int) {H : Heap} (h : F_resources_classOf R l high function kind H) : CallsH Tryz.prog n_resources_classOf #[.slice l.p l.n l.c, .bool high, .int .i64 function, .int .i64 kind] H R :=
  wpF_ok Tryz.func77 (F_resources_classOf_eq R l high function kind H) h

/-! ### 78: platformfw/resources.prefAbove -/

def F_resources_prefAbove_r1 (R : Value → Heap → Prop) (l : Sl) (I_ : Int → Heap → Prop) (M_ : Int → Heap → Nat) (i1 : Int) (H1 : Heap) : Prop :=
  iteB (decide (i1 ≥ (0 : Int))) (
  0 ≤ i1 ∧ i1 < (l.n : Int) ∧ (unSome l.p (fun a1 =>
  ∃ x : Bool, rd H1 ((a1.add (i1.toNat * 11)).add 5) = some (.bool x) ∧ (
  iteB (!x) (
  R (.bool false) H1) (
  0 ≤ i1 ∧ i1 < (l.n : Int) ∧ (unSome l.p (fun a2 =>
  ∃ i2 : Int, rd H1 (a2.add (i1.toNat * 11)) = some (.int .i64 i2) ∧ (
  I_ i2 H1 ∧ M_ i2 H1 < M_ i1 H1)))))))) (
  R (.bool true) H1)

def F_resources_prefAbove (R : Value → Heap → Prop) (l : Sl) (function : Int) (H : Heap) : Prop :=
  0 ≤ function ∧ function < (l.n : Int) ∧ (unSome l.p (fun a =>
  ∃ i : Int, rd H (a.add (function.toNat * 11)) = some (.int .i64 i) ∧ (
  ∃ I_ : Int → Heap → Prop, ∃ M_ : Int → Heap → Nat, I_ i H ∧ (∀ i1 : Int, ∀ H1 : Heap, I_ i1 H1 → F_resources_prefAbove_r1 R l I_ M_ i1 H1))))

theorem F_resources_prefAbove_eq (R : Value → Heap → Prop) (l : Sl) (function : Int) (H : Heap) : wpF Tryz.prog Tryz.f78 [(5, .int .i64 0)] [] [(2, [5], [0])] [20] [.slice l.p l.n l.c, .int .i64 function] H R = F_resources_prefAbove R l function H := by kernel_rfl

theorem F_resources_prefAbove_ok {R : Value → Heap → Prop} (l : Sl) (function : Int) {H : Heap} (h : F_resources_prefAbove R l function H) : CallsH Tryz.prog n_resources_prefAbove #[.slice l.p l.n l.c, .int .i64 function] H R :=
  wpF_ok Tryz.func78 (F_resources_prefAbove_eq R l function H) h

/-! ### 79: platformfw/resources.WindowSize -/

def F_resources_WindowSize_k1 (R : Value → Heap → Prop) (sum : Int) (smallest2 : Int) (H4 : Heap) : Prop :=
  iteB (decide (sum > (0 : Int))) (
  CallsH Tryz.prog n_math_bits_Len64 #[.int .u64 (IntKind.u64.wrap (sum - (1 : Int)))] H4 (fun v H5 =>
  ∃ x1 : Int, v = .int .i64 x1 ∧ (
  letV (if x1 > smallest2 then x1 else smallest2) (fun smallest3 : Int =>
  R (.tuple #[.int .i64 smallest3, .bool true]) H5)))) (
  R (.tuple #[.int .i64 smallest2, .bool true]) H4)

def F_resources_WindowSize_k2 (R : Value → Heap → Prop) (hotplug : Bool) (sum : Int) (smallest : Int) (spare : Int) (H3 : Heap) : Prop :=
  ∃ J_2 : Int → Heap → Prop, (
  iteB hotplug (
  letV (if spare > smallest then spare else smallest) (fun smallest1 : Int =>
  J_2 smallest1 H3)) (
  J_2 smallest H3)) ∧ (∀ smallest2 : Int, ∀ H4 : Heap, J_2 smallest2 H4 → F_resources_WindowSize_k1 R sum smallest2 H4)

def F_resources_WindowSize_r3 (R : Value → Heap → Prop) (sizes : Sl) (classv : Int) (hotplug : Bool) (I_ : Int → Int → Heap → Prop) (M_ : Int → Int → Heap → Nat) (sum : Int) (x : Int) (H2 : Heap) : Prop :=
  iteB (decide (x < (sizes.n : Int))) (
  0 ≤ x ∧ x < (sizes.n : Int) ∧ (unSome sizes.p (fun a =>
  ∃ size : Int, rd H2 (a.add (x.toNat * 1)) = some (.int .i64 size) ∧ (
  iteB (decide (size < (0 : Int))) (
  R (.tuple #[.int .i64 (0 : Int), .bool false]) H2) (
  iteB (decide (size > (44 : Int))) (
  R (.tuple #[.int .i64 (0 : Int), .bool false]) H2) (
  0 ≤ size ∧ (
  letV (IntKind.u64.wrap (sum + (IntKind.u64.wrap ((1 : Int) * 2 ^ (min size.toNat IntKind.u64.bits))))) (fun sum1 : Int =>
  I_ sum1 (IntKind.i64.wrap (x + (1 : Int))) H2 ∧ M_ sum1 (IntKind.i64.wrap (x + (1 : Int))) H2 < M_ sum x H2)))))))) (
  ∃ J_1 : Int → Int → Heap → Prop, (
  iteB (classv == (0 : Int)) (
  J_1 (12 : Int) (12 : Int) H2) (
  J_1 (20 : Int) (22 : Int) H2)) ∧ (∀ smallest : Int, ∀ spare : Int, ∀ H3 : Heap, J_1 smallest spare H3 → F_resources_WindowSize_k2 R hotplug sum smallest spare H3))

def F_resources_WindowSize_k4 (R : Value → Heap → Prop) (sizes : Sl) (classv : Int) (hotplug : Bool) (H1 : Heap) : Prop :=
  ∃ I_ : Int → Int → Heap → Prop, ∃ M_ : Int → Int → Heap → Nat, I_ (0 : Int) (0 : Int) H1 ∧ (∀ sum : Int, ∀ x : Int, ∀ H2 : Heap, I_ sum x H2 → F_resources_WindowSize_r3 R sizes classv hotplug I_ M_ sum x H2)

def F_resources_WindowSize (R : Value → Heap → Prop) (sizes : Sl) (classv : Int) (hotplug : Bool) (H : Heap) : Prop :=
  ∃ J_ : Heap → Prop, (
  iteB ((sizes.n : Int) == (0 : Int)) (
  iteB (!hotplug) (
  R (.tuple #[.int .i64 (0 : Int), .bool false]) H) (
  iteB (decide ((sizes.n : Int) > (1024 : Int))) (
  R (.tuple #[.int .i64 (0 : Int), .bool false]) H) (
  iteB (decide (classv < (0 : Int))) (
  R (.tuple #[.int .i64 (0 : Int), .bool false]) H) (
  iteB (decide (classv ≥ (3 : Int))) (
  R (.tuple #[.int .i64 (0 : Int), .bool false]) H) (
  J_ H))))) (
  iteB (decide ((sizes.n : Int) > (1024 : Int))) (
  R (.tuple #[.int .i64 (0 : Int), .bool false]) H) (
  iteB (decide (classv < (0 : Int))) (
  R (.tuple #[.int .i64 (0 : Int), .bool false]) H) (
  iteB (decide (classv ≥ (3 : Int))) (
  R (.tuple #[.int .i64 (0 : Int), .bool false]) H) (
  J_ H))))) ∧ (∀ H1 : Heap, J_ H1 → F_resources_WindowSize_k4 R sizes classv hotplug H1)

theorem F_resources_WindowSize_eq (R : Value → Heap → Prop) (sizes : Sl) (classv : Int) (hotplug : Bool) (H : Heap) : wpF Tryz.prog Tryz.f79 [(8, .int .u64 0), (11, .int .i64 0), (12, .int .i64 0), (35, .int .i64 0)] [(3, [], [0, 1, 2]), (14, [11, 12], [2, 8]), (16, [11], [8])] [(5, [8, 35], [1, 2, 33, 34])] [20] [.slice sizes.p sizes.n sizes.c, .int .i64 classv, .bool hotplug] H R = F_resources_WindowSize R sizes classv hotplug H := by kernel_rfl

theorem F_resources_WindowSize_ok {R : Value → Heap → Prop} (sizes : Sl) (classv : Int) (hotplug : Bool) {H : Heap} (h : F_resources_WindowSize R sizes classv hotplug H) : CallsH Tryz.prog n_resources_WindowSize #[.slice sizes.p sizes.n sizes.c, .int .i64 classv, .bool hotplug] H R :=
  wpF_ok Tryz.func79 (F_resources_WindowSize_eq R sizes classv hotplug H) h

/-! ### 80: platformfw/platformfwref18.Registers -/

def F_ref18_Registers (R : Value → Heap → Prop) (f_0 : Int) (f_1 : Int) (f_2 : Int) (f_3 : Int) (f_4 : Bool) (f_5 : Bool) (f_6 : Bool) (f_7 : Int) (f_8 : Int) (f_9 : Int) (f_10 : Sl) (H : Heap) : Prop :=
  letH (H.push (.cells #[.int .i64 f_0, .int .i64 f_1, .int .i64 f_2, .int .i64 f_3, .bool f_4, .bool f_5, .bool f_6, .int .i64 f_7, .int .i64 f_8, .int .i64 f_9, .slice f_10.p f_10.n f_10.c] t_api_Function (0, 0))) (fun H1 : Heap =>
  ∃ x : Bool, rd H1 ((⟨H.size, 0, none⟩ : Addr).add 4) = some (.bool x) ∧ (
  iteB x (
  R (.int .i64 (2 : Int)) H1) (
  R (.int .i64 (6 : Int)) H1)))

theorem F_ref18_Registers_eq (R : Value → Heap → Prop) (f_0 : Int) (f_1 : Int) (f_2 : Int) (f_3 : Int) (f_4 : Bool) (f_5 : Bool) (f_6 : Bool) (f_7 : Int) (f_8 : Int) (f_9 : Int) (f_10 : Sl) (H : Heap) : wpF Tryz.prog Tryz.f80 [] [] [] [20] [.agg #[.int .i64 f_0, .int .i64 f_1, .int .i64 f_2, .int .i64 f_3, .bool f_4, .bool f_5, .bool f_6, .int .i64 f_7, .int .i64 f_8, .int .i64 f_9, .slice f_10.p f_10.n f_10.c]] H R = F_ref18_Registers R f_0 f_1 f_2 f_3 f_4 f_5 f_6 f_7 f_8 f_9 f_10 H := by kernel_rfl

theorem F_ref18_Registers_ok {R : Value → Heap → Prop} (f_0 : Int) (f_1 : Int) (f_2 : Int) (f_3 : Int) (f_4 : Bool) (f_5 : Bool) (f_6 : Bool) (f_7 : Int) (f_8 : Int) (f_9 : Int) (f_10 : Sl) {H : Heap} (h : F_ref18_Registers R f_0 f_1 f_2 f_3 f_4 f_5 f_6 f_7 f_8 f_9 f_10 H) : CallsH Tryz.prog n_ref18_Registers #[.agg #[.int .i64 f_0, .int .i64 f_1, .int .i64 f_2, .int .i64 f_3, .bool f_4, .bool f_5, .bool f_6, .int .i64 f_7, .int .i64 f_8, .int .i64 f_9, .slice f_10.p f_10.n f_10.c]] H R :=
  wpF_ok Tryz.func80 (F_ref18_Registers_eq R f_0 f_1 f_2 f_3 f_4 f_5 f_6 f_7 f_8 f_9 f_10 H) h

/-! ### 81: platformfw/platformfwref18.bar -/

def F_ref18_bar (R : Value → Heap → Prop) (f_0 : Int) (f_1 : Int) (f_2 : Int) (f_3 : Int) (f_4 : Bool) (f_5 : Bool) (f_6 : Bool) (f_7 : Int) (f_8 : Int) (f_9 : Int) (f_10 : Sl) (i : Int) (H : Heap) : Prop :=
  letH (H.push (.cells #[.int .i64 f_0, .int .i64 f_1, .int .i64 f_2, .int .i64 f_3, .bool f_4, .bool f_5, .bool f_6, .int .i64 f_7, .int .i64 f_8, .int .i64 f_9, .slice f_10.p f_10.n f_10.c] t_api_Function (0, 0))) (fun H1 : Heap =>
  letH (H1.push (.cells #[.int .i64 (0 : Int), .int .i64 (0 : Int)] t_api_Bar (0, 0))) (fun H2 : Heap =>
  iteB (decide (i < (0 : Int))) (
  okRow H2 (⟨H1.size, 0, none⟩ : Addr) 2 ∧ (
  letH (wrs H2 (⟨H1.size, 0, none⟩ : Addr) [.int .i64 (0 : Int), .int .i64 (0 : Int)]) (fun H3 : Heap =>
  ∃ r : Int, rd H3 (⟨H1.size, 0, none⟩ : Addr) = some (.int .i64 r) ∧ ∃ r1 : Int, rd H3 ((⟨H1.size, 0, none⟩ : Addr).add 1) = some (.int .i64 r1) ∧ (
  R (.agg #[.int .i64 r, .int .i64 r1]) H3)))) (
  ∃ x : Sl, rd H2 ((⟨H.size, 0, none⟩ : Addr).add 10) = some (.slice x.p x.n x.c) ∧ (
  iteB (decide (i ≥ (x.n : Int))) (
  okRow H2 (⟨H1.size, 0, none⟩ : Addr) 2 ∧ (
  letH (wrs H2 (⟨H1.size, 0, none⟩ : Addr) [.int .i64 (0 : Int), .int .i64 (0 : Int)]) (fun H4 : Heap =>
  ∃ r2 : Int, rd H4 (⟨H1.size, 0, none⟩ : Addr) = some (.int .i64 r2) ∧ ∃ r3 : Int, rd H4 ((⟨H1.size, 0, none⟩ : Addr).add 1) = some (.int .i64 r3) ∧ (
  R (.agg #[.int .i64 r2, .int .i64 r3]) H4)))) (
  ∃ x1 : Sl, rd H2 ((⟨H.size, 0, none⟩ : Addr).add 10) = some (.slice x1.p x1.n x1.c) ∧ (
  0 ≤ i ∧ i < (x1.n : Int) ∧ (unSome x1.p (fun a =>
  ∃ x2 : Int, rd H2 (a.add (i.toNat * 2)) = some (.int .i64 x2) ∧ ∃ x3 : Int, rd H2 ((a.add (i.toNat * 2)).add 1) = some (.int .i64 x3) ∧ (
  okRow H2 (⟨H1.size, 0, none⟩ : Addr) 2 ∧ (
  letH (wrs H2 (⟨H1.size, 0, none⟩ : Addr) [.int .i64 x2, .int .i64 x3]) (fun H5 : Heap =>
  ∃ r4 : Int, rd H5 (⟨H1.size, 0, none⟩ : Addr) = some (.int .i64 r4) ∧ ∃ r5 : Int, rd H5 ((⟨H1.size, 0, none⟩ : Addr).add 1) = some (.int .i64 r5) ∧ (
  R (.agg #[.int .i64 r4, .int .i64 r5]) H5))))))))))))

theorem F_ref18_bar_eq (R : Value → Heap → Prop) (f_0 : Int) (f_1 : Int) (f_2 : Int) (f_3 : Int) (f_4 : Bool) (f_5 : Bool) (f_6 : Bool) (f_7 : Int) (f_8 : Int) (f_9 : Int) (f_10 : Sl) (i : Int) (H : Heap) : wpF Tryz.prog Tryz.f81 [] [] [] [20] [.agg #[.int .i64 f_0, .int .i64 f_1, .int .i64 f_2, .int .i64 f_3, .bool f_4, .bool f_5, .bool f_6, .int .i64 f_7, .int .i64 f_8, .int .i64 f_9, .slice f_10.p f_10.n f_10.c], .int .i64 i] H R = F_ref18_bar R f_0 f_1 f_2 f_3 f_4 f_5 f_6 f_7 f_8 f_9 f_10 i H := by kernel_rfl

theorem F_ref18_bar_ok {R : Value → Heap → Prop} (f_0 : Int) (f_1 : Int) (f_2 : Int) (f_3 : Int) (f_4 : Bool) (f_5 : Bool) (f_6 : Bool) (f_7 : Int) (f_8 : Int) (f_9 : Int) (f_10 : Sl) (i : Int) {H : Heap} (h : F_ref18_bar R f_0 f_1 f_2 f_3 f_4 f_5 f_6 f_7 f_8 f_9 f_10 i H) : CallsH Tryz.prog n_ref18_bar #[.agg #[.int .i64 f_0, .int .i64 f_1, .int .i64 f_2, .int .i64 f_3, .bool f_4, .bool f_5, .bool f_6, .int .i64 f_7, .int .i64 f_8, .int .i64 f_9, .slice f_10.p f_10.n f_10.c], .int .i64 i] H R :=
  wpF_ok Tryz.func81 (F_ref18_bar_eq R f_0 f_1 f_2 f_3 f_4 f_5 f_6 f_7 f_8 f_9 f_10 i H) h

/-! ### 82: platformfw/platformfwref18.above -/

def F_ref18_above_r1 (R : Value → Heap → Prop) (l : Sl) (I_ : Int → Heap → Prop) (M_ : Int → Heap → Nat) (i2 : Int) (H1 : Heap) : Prop :=
  iteB (decide (i2 ≥ (0 : Int))) (
  0 ≤ i2 ∧ i2 < (l.n : Int) ∧ (unSome l.p (fun a1 =>
  ∃ x : Bool, rd H1 ((a1.add (i2.toNat * 11)).add 5) = some (.bool x) ∧ (
  iteB (!x) (
  R (.bool false) H1) (
  0 ≤ i2 ∧ i2 < (l.n : Int) ∧ (unSome l.p (fun a2 =>
  ∃ i3 : Int, rd H1 (a2.add (i2.toNat * 11)) = some (.int .i64 i3) ∧ (
  I_ i3 H1 ∧ M_ i3 H1 < M_ i2 H1)))))))) (
  R (.bool true) H1)

def F_ref18_above (R : Value → Heap → Prop) (l : Sl) (i : Int) (H : Heap) : Prop :=
  0 ≤ i ∧ i < (l.n : Int) ∧ (unSome l.p (fun a =>
  ∃ i1 : Int, rd H (a.add (i.toNat * 11)) = some (.int .i64 i1) ∧ (
  ∃ I_ : Int → Heap → Prop, ∃ M_ : Int → Heap → Nat, I_ i1 H ∧ (∀ i2 : Int, ∀ H1 : Heap, I_ i2 H1 → F_ref18_above_r1 R l I_ M_ i2 H1))))

theorem F_ref18_above_eq (R : Value → Heap → Prop) (l : Sl) (i : Int) (H : Heap) : wpF Tryz.prog Tryz.f82 [(1, .int .i64 0)] [] [(2, [1], [0])] [20] [.slice l.p l.n l.c, .int .i64 i] H R = F_ref18_above R l i H := by kernel_rfl

theorem F_ref18_above_ok {R : Value → Heap → Prop} (l : Sl) (i : Int) {H : Heap} (h : F_ref18_above R l i H) : CallsH Tryz.prog n_ref18_above #[.slice l.p l.n l.c, .int .i64 i] H R :=
  wpF_ok Tryz.func82 (F_ref18_above_eq R l i H) h

/-! ### 83: platformfw/platformfwref18.WindowSize -/

def F_ref18_WindowSize_k1 (hotplug : Bool) (w : Int) (J_2 : Int → Heap → Prop) (x3 : Bool) (H4 : Heap) : Prop :=
  iteB x3 (
  letV (if (12 : Int) > w then (12 : Int) else w) (fun w1 : Int =>
  J_2 w1 H4)) (
  iteB hotplug (
  letV (if (22 : Int) > w then (22 : Int) else w) (fun w2 : Int =>
  J_2 w2 H4)) (
  J_2 w H4))

def F_ref18_WindowSize_r2 (R : Value → Heap → Prop) (sum : Int) (I_1 : Int → Heap → Prop) (M_1 : Int → Heap → Nat) (w4 : Int) (H6 : Heap) : Prop :=
  0 ≤ (IntKind.u64.wrap w4) ∧ (
  iteB (decide ((IntKind.u64.wrap ((1 : Int) * 2 ^ (min (IntKind.u64.wrap w4).toNat IntKind.u64.bits))) < sum)) (
  letV (IntKind.i64.wrap (w4 + (1 : Int))) (fun w5 : Int =>
  I_1 w5 H6 ∧ M_1 w5 H6 < M_1 w4 H6)) (
  R (.tuple #[.int .i64 w4, .bool true]) H6))

def F_ref18_WindowSize_k3 (R : Value → Heap → Prop) (sum : Int) (w3 : Int) (H5 : Heap) : Prop :=
  ∃ I_1 : Int → Heap → Prop, ∃ M_1 : Int → Heap → Nat, I_1 w3 H5 ∧ (∀ w4 : Int, ∀ H6 : Heap, I_1 w4 H6 → F_ref18_WindowSize_r2 R sum I_1 M_1 w4 H6)

def F_ref18_WindowSize_k4 (R : Value → Heap → Prop) (classv : Int) (hotplug : Bool) (sum : Int) (w : Int) (H3 : Heap) : Prop :=
  ∃ J_2 : Int → Heap → Prop, (
  ∃ J_3 : Bool → Heap → Prop, (
  iteB hotplug (
  J_3 (classv == (0 : Int)) H3) (
  J_3 false H3)) ∧ (∀ x3 : Bool, ∀ H4 : Heap, J_3 x3 H4 → F_ref18_WindowSize_k1 hotplug w J_2 x3 H4)) ∧ (∀ w3 : Int, ∀ H5 : Heap, J_2 w3 H5 → F_ref18_WindowSize_k3 R sum w3 H5)

def F_ref18_WindowSize_r5 (R : Value → Heap → Prop) (sizes : Sl) (classv : Int) (hotplug : Bool) (I_ : Int → Int → Heap → Prop) (M_ : Int → Int → Heap → Nat) (sum : Int) (i : Int) (H2 : Heap) : Prop :=
  iteB (decide (i < (sizes.n : Int))) (
  0 ≤ i ∧ i < (sizes.n : Int) ∧ (unSome sizes.p (fun a =>
  ∃ x : Int, rd H2 (a.add (i.toNat * 1)) = some (.int .i64 x) ∧ (
  iteB (decide (x < (0 : Int))) (
  R (.tuple #[.int .i64 (0 : Int), .bool false]) H2) (
  0 ≤ i ∧ i < (sizes.n : Int) ∧ (unSome sizes.p (fun a1 =>
  ∃ x1 : Int, rd H2 (a1.add (i.toNat * 1)) = some (.int .i64 x1) ∧ (
  iteB (decide (x1 > (44 : Int))) (
  R (.tuple #[.int .i64 (0 : Int), .bool false]) H2) (
  0 ≤ i ∧ i < (sizes.n : Int) ∧ (unSome sizes.p (fun a2 =>
  ∃ x2 : Int, rd H2 (a2.add (i.toNat * 1)) = some (.int .i64 x2) ∧ (
  0 ≤ (IntKind.u64.wrap x2) ∧ (
  letV (IntKind.u64.wrap (sum + (IntKind.u64.wrap ((1 : Int) * 2 ^ (min (IntKind.u64.wrap x2).toNat IntKind.u64.bits))))) (fun sum1 : Int =>
  letV (IntKind.i64.wrap (i + (1 : Int))) (fun i1 : Int =>
  I_ sum1 i1 H2 ∧ M_ sum1 i1 H2 < M_ sum i H2))))))))))))))) (
  ∃ J_1 : Int → Heap → Prop, (
  iteB (classv == (0 : Int)) (
  J_1 (12 : Int) H2) (
  J_1 (20 : Int) H2)) ∧ (∀ w : Int, ∀ H3 : Heap, J_1 w H3 → F_ref18_WindowSize_k4 R classv hotplug sum w H3))

def F_ref18_WindowSize_k6 (R : Value → Heap → Prop) (sizes : Sl) (classv : Int) (hotplug : Bool) (H1 : Heap) : Prop :=
  ∃ I_ : Int → Int → Heap → Prop, ∃ M_ : Int → Int → Heap → Nat, I_ (0 : Int) (0 : Int) H1 ∧ (∀ sum : Int, ∀ i : Int, ∀ H2 : Heap, I_ sum i H2 → F_ref18_WindowSize_r5 R sizes classv hotplug I_ M_ sum i H2)

def F_ref18_WindowSize (R : Value → Heap → Prop) (sizes : Sl) (classv : Int) (hotplug : Bool) (H : Heap) : Prop :=
  ∃ J_ : Heap → Prop, (
  iteB (decide (classv < (0 : Int))) (
  R (.tuple #[.int .i64 (0 : Int), .bool false]) H) (
  iteB (decide (classv ≥ (3 : Int))) (
  R (.tuple #[.int .i64 (0 : Int), .bool false]) H) (
  iteB (decide ((sizes.n : Int) > (1024 : Int))) (
  R (.tuple #[.int .i64 (0 : Int), .bool false]) H) (
  iteB ((sizes.n : Int) == (0 : Int)) (
  iteB (!hotplug) (
  R (.tuple #[.int .i64 (0 : Int), .bool false]) H) (
  J_ H)) (
  J_ H))))) ∧ (∀ H1 : Heap, J_ H1 → F_ref18_WindowSize_k6 R sizes classv hotplug H1)

theorem F_ref18_WindowSize_eq (R : Value → Heap → Prop) (sizes : Sl) (classv : Int) (hotplug : Bool) (H : Heap) : wpF Tryz.prog Tryz.f83 [(8, .int .u64 0), (9, .int .i64 0), (10, .int .i64 0), (63, .bool false)] [(3, [], [0, 1, 2]), (13, [10], [1, 2, 8]), (17, [10], [8]), (14, [63], [2, 8, 10])] [(5, [8, 9], [0, 1, 2]), (17, [10], [8])] [20] [.slice sizes.p sizes.n sizes.c, .int .i64 classv, .bool hotplug] H R = F_ref18_WindowSize R sizes classv hotplug H := by kernel_rfl

theorem F_ref18_WindowSize_ok {R : Value → Heap → Prop} (sizes : Sl) (classv : Int) (hotplug : Bool) {H : Heap} (h : F_ref18_WindowSize R sizes classv hotplug H) : CallsH Tryz.prog n_ref18_WindowSize #[.slice sizes.p sizes.n sizes.c, .int .i64 classv, .bool hotplug] H R :=
  wpF_ok Tryz.func83 (F_ref18_WindowSize_eq R sizes classv hotplug H) h

/-! ### 84: platformfw/platformfwref21.items -/

def F_ref21_items_r1 (R : Value → Heap → Prop) (sizes : Sl) (I_ : Int → Heap → Prop) (M_ : Int → Heap → Nat) (i : Int) (H1 : Heap) : Prop :=
  iteB (decide (i < (sizes.n : Int))) (
  0 ≤ i ∧ i < (sizes.n : Int) ∧ (unSome sizes.p (fun a =>
  ∃ x : Int, rd H1 (a.add (i.toNat * 1)) = some (.int .i64 x) ∧ (
  iteB (decide (x < (0 : Int))) (
  R (.bool false) H1) (
  0 ≤ i ∧ i < (sizes.n : Int) ∧ (unSome sizes.p (fun a1 =>
  ∃ x1 : Int, rd H1 (a1.add (i.toNat * 1)) = some (.int .i64 x1) ∧ (
  iteB (decide (x1 > (44 : Int))) (
  R (.bool false) H1) (
  letV (IntKind.i64.wrap (i + (1 : Int))) (fun i1 : Int =>
  I_ i1 H1 ∧ M_ i1 H1 < M_ i H1)))))))))) (
  R (.bool true) H1)

def F_ref21_items (R : Value → Heap → Prop) (sizes : Sl) (H : Heap) : Prop :=
  iteB (decide ((sizes.n : Int) > (1024 : Int))) (
  R (.bool false) H) (
  ∃ I_ : Int → Heap → Prop, ∃ M_ : Int → Heap → Nat, I_ (0 : Int) H ∧ (∀ i : Int, ∀ H1 : Heap, I_ i H1 → F_ref21_items_r1 R sizes I_ M_ i H1))

theorem F_ref21_items_eq (R : Value → Heap → Prop) (sizes : Sl) (H : Heap) : wpF Tryz.prog Tryz.f84 [(3, .int .i64 0)] [] [(4, [3], [0])] [20] [.slice sizes.p sizes.n sizes.c] H R = F_ref21_items R sizes H := by kernel_rfl

theorem F_ref21_items_ok {R : Value → Heap → Prop} (sizes : Sl) {H : Heap} (h : F_ref21_items R sizes H) : CallsH Tryz.prog n_ref21_items #[.slice sizes.p sizes.n sizes.c] H R :=
  wpF_ok Tryz.func84 (F_ref21_items_eq R sizes H) h

/-! ### 85: platformfw/platformfwref21.merge -/

def F_ref21_merge_k1 (I_ : Sl → Sl → Heap → Prop) (M_ : Sl → Sl → Heap → Nat) (out : Sl) (left1 : Sl) (H2 : Heap) (H3 : Heap) (left2 : Sl) (n : Int) (x8 : Bool) (H8 : Heap) : Prop :=
  iteB x8 (
  0 ≤ n ∧ n < (out.n : Int) ∧ (unSome out.p (fun a5 =>
  ∃ x9 : Int, rd H8 ((a5.add (n.toNat * 2)).add 1) = some (.int .u64 x9) ∧ (
  ∃ x10 : Int, rd H8 (⟨H3.size, 0, none⟩ : Addr) = some (.int .u64 x10) ∧ (
  ∃ x11 : Int, rd H8 ((⟨H3.size, 0, none⟩ : Addr).add 1) = some (.int .u64 x11) ∧ (
  0 ≤ n ∧ n < (out.n : Int) ∧ (unSome out.p (fun a6 =>
  ∃ x12 : Int, rd H8 (a6.add (n.toNat * 2)) = some (.int .u64 x12) ∧ (
  0 ≤ n ∧ n < (out.n : Int) ∧ (unSome out.p (fun a7 =>
  okRow H8 ((a7.add (n.toNat * 2)).add 1) 1 ∧ (
  letH (wrs H8 ((a7.add (n.toNat * 2)).add 1) [.int .u64 (if (IntKind.u64.wrap ((IntKind.u64.wrap (x10 + x11)) - x12)) > x9 then (IntKind.u64.wrap ((IntKind.u64.wrap (x10 + x11)) - x12)) else x9)]) (fun H9 : Heap =>
  I_ out left2 H9 ∧ M_ out left2 H9 < M_ out left1 H2))))))))))))) (
  ∃ x13 : Int, rd H8 (⟨H3.size, 0, none⟩ : Addr) = some (.int .u64 x13) ∧ ∃ x14 : Int, rd H8 ((⟨H3.size, 0, none⟩ : Addr).add 1) = some (.int .u64 x14) ∧ (
  letH (H8.push (.cells #[.int .u64 x13, .int .u64 x14] t_api_Range (0, 0))) (fun H10 : Heap =>
  runH Tryz.prog (Builtin.append_ #[t_sl_api_Range, t_sl_api_Range] t_sl_api_Range #[.slice out.p out.n out.c, .slice (some (⟨H8.size, 0, none⟩ : Addr)) 1 1]) H10 (fun v3 H11 =>
  ∃ out1 : Sl, v3 = .slice out1.p out1.n out1.c ∧ (
  I_ out1 left2 H11 ∧ M_ out1 left2 H11 < M_ out left1 H2)))))

def F_ref21_merge_r2 (I_ : Sl → Sl → Heap → Prop) (M_ : Sl → Sl → Heap → Nat) (out : Sl) (left1 : Sl) (H2 : Heap) (I_1 : Int → Int → Heap → Prop) (M_1 : Int → Int → Heap → Nat) (k : Int) (i : Int) (H3 : Heap) : Prop :=
  iteB (decide (i < (left1.n : Int))) (
  0 ≤ i ∧ i < (left1.n : Int) ∧ (unSome left1.p (fun a =>
  ∃ x : Int, rd H3 (a.add (i.toNat * 2)) = some (.int .u64 x) ∧ (
  0 ≤ k ∧ k < (left1.n : Int) ∧ (unSome left1.p (fun a1 =>
  ∃ x1 : Int, rd H3 (a1.add (k.toNat * 2)) = some (.int .u64 x1) ∧ (
  iteB (decide (x < x1)) (
  letV (IntKind.i64.wrap (i + (1 : Int))) (fun i1 : Int =>
  I_1 i i1 H3 ∧ M_1 i i1 H3 < M_1 k i H3)) (
  letV (IntKind.i64.wrap (i + (1 : Int))) (fun i2 : Int =>
  I_1 k i2 H3 ∧ M_1 k i2 H3 < M_1 k i H3))))))))) (
  0 ≤ k ∧ k < (left1.n : Int) ∧ (unSome left1.p (fun a2 =>
  ∃ x2 : Int, rd H3 (a2.add (k.toNat * 2)) = some (.int .u64 x2) ∧ ∃ x3 : Int, rd H3 ((a2.add (k.toNat * 2)).add 1) = some (.int .u64 x3) ∧ (
  letH (H3.push (.cells #[.int .u64 (0 : Int), .int .u64 (0 : Int)] t_api_Range (0, 0))) (fun H4 : Heap =>
  okRow H4 (⟨H3.size, 0, none⟩ : Addr) 2 ∧ (
  letH (wrs H4 (⟨H3.size, 0, none⟩ : Addr) [.int .u64 x2, .int .u64 x3]) (fun H5 : Heap =>
  0 ≤ k ∧ k ≤ (left1.c : Int) ∧ (
  0 ≤ (IntKind.i64.wrap (k + (1 : Int))) ∧ (IntKind.i64.wrap (k + (1 : Int))) ≤ (left1.n : Int) ∧ (
  runH Tryz.prog (Builtin.append_ #[t_sl_api_Range, t_sl_api_Range] t_sl_api_Range #[.slice none 0 0, .slice (slP left1.p left1.c 0 2) (k.toNat - 0) (left1.c - 0)]) H5 (fun v1 H6 =>
  ∃ x4 : Sl, v1 = .slice x4.p x4.n x4.c ∧ (
  runH Tryz.prog (Builtin.append_ #[t_sl_api_Range, t_sl_api_Range] t_sl_api_Range #[.slice x4.p x4.n x4.c, .slice (slP left1.p left1.c ((IntKind.i64.wrap (k + (1 : Int))).toNat) 2) (left1.n - (IntKind.i64.wrap (k + (1 : Int))).toNat) (left1.c - (IntKind.i64.wrap (k + (1 : Int))).toNat)]) H6 (fun v2 H7 =>
  ∃ left2 : Sl, v2 = .slice left2.p left2.n left2.c ∧ (
  letV (IntKind.i64.wrap ((out.n : Int) - (1 : Int))) (fun n : Int =>
  ∃ J_ : Bool → Heap → Prop, (
  iteB (decide (n ≥ (0 : Int))) (
  ∃ x5 : Int, rd H7 (⟨H3.size, 0, none⟩ : Addr) = some (.int .u64 x5) ∧ (
  0 ≤ n ∧ n < (out.n : Int) ∧ (unSome out.p (fun a3 =>
  ∃ x6 : Int, rd H7 (a3.add (n.toNat * 2)) = some (.int .u64 x6) ∧ (
  0 ≤ n ∧ n < (out.n : Int) ∧ (unSome out.p (fun a4 =>
  ∃ x7 : Int, rd H7 ((a4.add (n.toNat * 2)).add 1) = some (.int .u64 x7) ∧ (
  J_ (decide (x5 ≤ (IntKind.u64.wrap (x6 + x7)))) H7)))))))) (
  J_ false H7)) ∧ (∀ x8 : Bool, ∀ H8 : Heap, J_ x8 H8 → F_ref21_merge_k1 I_ M_ out left1 H2 H3 left2 n x8 H8)))))))))))))))

def F_ref21_merge_r3 (R : Value → Heap → Prop) (I_ : Sl → Sl → Heap → Prop) (M_ : Sl → Sl → Heap → Nat) (out : Sl) (left1 : Sl) (H2 : Heap) : Prop :=
  iteB (decide ((left1.n : Int) > (0 : Int))) (
  ∃ I_1 : Int → Int → Heap → Prop, ∃ M_1 : Int → Int → Heap → Nat, I_1 (0 : Int) (1 : Int) H2 ∧ (∀ k : Int, ∀ i : Int, ∀ H3 : Heap, I_1 k i H3 → F_ref21_merge_r2 I_ M_ out left1 H2 I_1 M_1 k i H3)) (
  R (.slice out.p out.n out.c) H2)

def F_ref21_merge (R : Value → Heap → Prop) (l : Sl) (H : Heap) : Prop :=
  runH Tryz.prog (Builtin.append_ #[t_sl_api_Range, t_sl_api_Range] t_sl_api_Range #[.slice none 0 0, .slice l.p l.n l.c]) H (fun v H1 =>
  ∃ left : Sl, v = .slice left.p left.n left.c ∧ (
  ∃ I_ : Sl → Sl → Heap → Prop, ∃ M_ : Sl → Sl → Heap → Nat, I_ (Sl.mk none 0 0) left H1 ∧ (∀ out : Sl, ∀ left1 : Sl, ∀ H2 : Heap, I_ out left1 H2 → F_ref21_merge_r3 R I_ M_ out left1 H2)))

theorem F_ref21_merge_eq (R : Value → Heap → Prop) (l : Sl) (H : Heap) : wpF Tryz.prog Tryz.f85 [(3, .slice none 0 0), (4, .slice none 0 0), (5, .int .i64 0), (6, .int .i64 0), (65, .bool false)] [(14, [65], [3, 4, 7, 8])] [(3, [3, 4], []), (6, [5, 6], [3, 4])] [20] [.slice l.p l.n l.c] H R = F_ref21_merge R l H := by kernel_rfl

theorem F_ref21_merge_ok {R : Value → Heap → Prop} (l : Sl) {H : Heap} (h : F_ref21_merge R l H) : CallsH Tryz.prog n_ref21_merge #[.slice l.p l.n l.c] H R :=
  wpF_ok Tryz.func85 (F_ref21_merge_eq R l H) h

/-! ### 86: platformfw/platformfwref21.up -/

def F_ref21_up (R : Value → Heap → Prop) (a : Int) (k : Int) (H : Heap) : Prop :=
  0 ≤ (IntKind.u64.wrap k) ∧ (
  0 ≤ (IntKind.u64.wrap k) ∧ (
  0 ≤ (IntKind.u64.wrap k) ∧ (
  letV (IntKind.u64.wrap (((IntKind.u64.wrap ((IntKind.u64.wrap (a + (IntKind.u64.wrap ((1 : Int) * 2 ^ (min (IntKind.u64.wrap k).toNat IntKind.u64.bits))))) - (1 : Int))).fdiv (2 ^ (min (IntKind.u64.wrap k).toNat IntKind.u64.bits))) * 2 ^ (min (IntKind.u64.wrap k).toNat IntKind.u64.bits))) (fun x : Int =>
  R (.int .u64 x) H))))

theorem F_ref21_up_eq (R : Value → Heap → Prop) (a : Int) (k : Int) (H : Heap) : wpF Tryz.prog Tryz.f86 [] [] [] [20] [.int .u64 a, .int .i64 k] H R = F_ref21_up R a k H := by kernel_rfl

theorem F_ref21_up_ok {R : Value → Heap → Prop} (a : Int) (k : Int) {H : Heap} (h : F_ref21_up R a k H) : CallsH Tryz.prog n_ref21_up #[.int .u64 a, .int .i64 k] H R :=
  wpF_ok Tryz.func86 (F_ref21_up_eq R a k H) h

/-! ### 87: platformfw/platformfwref21.refusal -/

def F_ref21_refusal_r1 (R : Value → Heap → Prop) (H : Heap) (free : Sl) (sizes : Sl) (I_ : Int → Heap → Prop) (M_ : Int → Heap → Nat) (k : Int) (H2 : Heap) : Prop :=
  iteB (decide (k ≥ (0 : Int))) (
  CallsH Tryz.prog n_ref21_demand #[.slice sizes.p sizes.n sizes.c, .int .i64 k] H2 (fun v H3 =>
  ∃ n : Int, v = .int .u64 n ∧ (
  CallsH Tryz.prog n_ref21_Blocks #[.slice free.p free.n free.c, .int .i64 k] H3 (fun v1 H4 =>
  ∃ b : Int, v1 = .int .u64 b ∧ (
  0 ≤ (IntKind.u64.wrap k) ∧ (
  iteB (decide (n > (IntKind.u64.wrap (b * 2 ^ (min (IntKind.u64.wrap k).toNat IntKind.u64.bits))))) (
  okRow H4 (⟨H.size, 0, none⟩ : Addr) 4 ∧ (
  letH (wrs H4 (⟨H.size, 0, none⟩ : Addr) [.int .i64 (0 : Int), .int .i64 k, .int .u64 n, .int .u64 b]) (fun H5 : Heap =>
  ∃ r : Int, rd H5 (⟨H.size, 0, none⟩ : Addr) = some (.int .i64 r) ∧ ∃ r1 : Int, rd H5 ((⟨H.size, 0, none⟩ : Addr).add 1) = some (.int .i64 r1) ∧ ∃ r2 : Int, rd H5 ((⟨H.size, 0, none⟩ : Addr).add 2) = some (.int .u64 r2) ∧ ∃ r3 : Int, rd H5 ((⟨H.size, 0, none⟩ : Addr).add 3) = some (.int .u64 r3) ∧ (
  R (.agg #[.int .i64 r, .int .i64 r1, .int .u64 r2, .int .u64 r3]) H5)))) (
  letV (IntKind.i64.wrap (k - (1 : Int))) (fun k1 : Int =>
  I_ k1 H4 ∧ M_ k1 H4 < M_ k H2)))))))) (
  okRow H2 (⟨H.size, 0, none⟩ : Addr) 4 ∧ (
  letH (wrs H2 (⟨H.size, 0, none⟩ : Addr) [.int .i64 (0 : Int), .int .i64 (0 : Int), .int .u64 (0 : Int), .int .u64 (0 : Int)]) (fun H6 : Heap =>
  ∃ r4 : Int, rd H6 (⟨H.size, 0, none⟩ : Addr) = some (.int .i64 r4) ∧ ∃ r5 : Int, rd H6 ((⟨H.size, 0, none⟩ : Addr).add 1) = some (.int .i64 r5) ∧ ∃ r6 : Int, rd H6 ((⟨H.size, 0, none⟩ : Addr).add 2) = some (.int .u64 r6) ∧ ∃ r7 : Int, rd H6 ((⟨H.size, 0, none⟩ : Addr).add 3) = some (.int .u64 r7) ∧ (
  R (.agg #[.int .i64 r4, .int .i64 r5, .int .u64 r6, .int .u64 r7]) H6))))

def F_ref21_refusal (R : Value → Heap → Prop) (free : Sl) (sizes : Sl) (H : Heap) : Prop :=
  letH (H.push (.cells #[.int .i64 (0 : Int), .int .i64 (0 : Int), .int .u64 (0 : Int), .int .u64 (0 : Int)] t_api_Certificate (0, 0))) (fun H1 : Heap =>
  ∃ I_ : Int → Heap → Prop, ∃ M_ : Int → Heap → Nat, I_ (44 : Int) H1 ∧ (∀ k : Int, ∀ H2 : Heap, I_ k H2 → F_ref21_refusal_r1 R H free sizes I_ M_ k H2))

theorem F_ref21_refusal_eq (R : Value → Heap → Prop) (free : Sl) (sizes : Sl) (H : Heap) : wpF Tryz.prog Tryz.f87 [(5, .int .i64 0)] [] [(2, [5], [0, 1, 4])] [20] [.slice free.p free.n free.c, .slice sizes.p sizes.n sizes.c] H R = F_ref21_refusal R free sizes H := by kernel_rfl

theorem F_ref21_refusal_ok {R : Value → Heap → Prop} (free : Sl) (sizes : Sl) {H : Heap} (h : F_ref21_refusal R free sizes H) : CallsH Tryz.prog n_ref21_refusal #[.slice free.p free.n free.c, .slice sizes.p sizes.n sizes.c] H R :=
  wpF_ok Tryz.func87 (F_ref21_refusal_eq R free sizes H) h

/-! ### 88: platformfw/platformfwref21.remove -/

def F_ref21_remove_k1 (I_ : Sl → Int → Heap → Prop) (M_ : Sl → Int → Heap → Nat) (out : Sl) (i : Int) (H2 : Heap) (endv : Int) (stop : Int) (out3 : Sl) (H10 : Heap) : Prop :=
  iteB (decide (stop < endv)) (
  letH (H10.push (.cells #[.int .u64 stop, .int .u64 (IntKind.u64.wrap (endv - stop))] t_api_Range (0, 0))) (fun H11 : Heap =>
  runH Tryz.prog (Builtin.append_ #[t_sl_api_Range, t_sl_api_Range] t_sl_api_Range #[.slice out3.p out3.n out3.c, .slice (some (⟨H10.size, 0, none⟩ : Addr)) 1 1]) H11 (fun v2 H12 =>
  ∃ out4 : Sl, v2 = .slice out4.p out4.n out4.c ∧ (
  letV (IntKind.i64.wrap (i + (1 : Int))) (fun i2 : Int =>
  I_ out4 i2 H12 ∧ M_ out4 i2 H12 < M_ out i H2))))) (
  letV (IntKind.i64.wrap (i + (1 : Int))) (fun i3 : Int =>
  I_ out3 i3 H10 ∧ M_ out3 i3 H10 < M_ out i H2))

def F_ref21_remove_k2 (H : Heap) (I_ : Sl → Int → Heap → Prop) (M_ : Sl → Int → Heap → Nat) (out : Sl) (i : Int) (H2 : Heap) (endv : Int) (stop : Int) (x8 : Bool) (H5 : Heap) : Prop :=
  iteB x8 (
  ∃ x9 : Int, rd H5 (⟨H2.size, 0, none⟩ : Addr) = some (.int .u64 x9) ∧ ∃ x10 : Int, rd H5 ((⟨H2.size, 0, none⟩ : Addr).add 1) = some (.int .u64 x10) ∧ (
  letH (H5.push (.cells #[.int .u64 x9, .int .u64 x10] t_api_Range (0, 0))) (fun H6 : Heap =>
  runH Tryz.prog (Builtin.append_ #[t_sl_api_Range, t_sl_api_Range] t_sl_api_Range #[.slice out.p out.n out.c, .slice (some (⟨H5.size, 0, none⟩ : Addr)) 1 1]) H6 (fun v H7 =>
  ∃ out1 : Sl, v = .slice out1.p out1.n out1.c ∧ (
  letV (IntKind.i64.wrap (i + (1 : Int))) (fun i1 : Int =>
  I_ out1 i1 H7 ∧ M_ out1 i1 H7 < M_ out i H2)))))) (
  ∃ J_1 : Sl → Heap → Prop, (
  ∃ x11 : Int, rd H5 (⟨H2.size, 0, none⟩ : Addr) = some (.int .u64 x11) ∧ (
  ∃ x12 : Int, rd H5 (⟨H.size, 0, none⟩ : Addr) = some (.int .u64 x12) ∧ (
  iteB (decide (x11 < x12)) (
  ∃ x13 : Int, rd H5 (⟨H2.size, 0, none⟩ : Addr) = some (.int .u64 x13) ∧ (
  ∃ x14 : Int, rd H5 (⟨H.size, 0, none⟩ : Addr) = some (.int .u64 x14) ∧ (
  ∃ x15 : Int, rd H5 (⟨H2.size, 0, none⟩ : Addr) = some (.int .u64 x15) ∧ (
  letH (H5.push (.cells #[.int .u64 x13, .int .u64 (IntKind.u64.wrap (x14 - x15))] t_api_Range (0, 0))) (fun H8 : Heap =>
  runH Tryz.prog (Builtin.append_ #[t_sl_api_Range, t_sl_api_Range] t_sl_api_Range #[.slice out.p out.n out.c, .slice (some (⟨H5.size, 0, none⟩ : Addr)) 1 1]) H8 (fun v1 H9 =>
  ∃ out2 : Sl, v1 = .slice out2.p out2.n out2.c ∧ (
  J_1 out2 H9))))))) (
  J_1 out H5)))) ∧ (∀ out3 : Sl, ∀ H10 : Heap, J_1 out3 H10 → F_ref21_remove_k1 I_ M_ out i H2 endv stop out3 H10))

def F_ref21_remove_r3 (R : Value → Heap → Prop) (H : Heap) (free : Sl) (I_ : Sl → Int → Heap → Prop) (M_ : Sl → Int → Heap → Nat) (out : Sl) (i : Int) (H2 : Heap) : Prop :=
  iteB (decide (i < (free.n : Int))) (
  0 ≤ i ∧ i < (free.n : Int) ∧ (unSome free.p (fun a =>
  ∃ x : Int, rd H2 (a.add (i.toNat * 2)) = some (.int .u64 x) ∧ ∃ x1 : Int, rd H2 ((a.add (i.toNat * 2)).add 1) = some (.int .u64 x1) ∧ (
  letH (H2.push (.cells #[.int .u64 (0 : Int), .int .u64 (0 : Int)] t_api_Range (0, 0))) (fun H3 : Heap =>
  okRow H3 (⟨H2.size, 0, none⟩ : Addr) 2 ∧ (
  letH (wrs H3 (⟨H2.size, 0, none⟩ : Addr) [.int .u64 x, .int .u64 x1]) (fun H4 : Heap =>
  ∃ x2 : Int, rd H4 (⟨H2.size, 0, none⟩ : Addr) = some (.int .u64 x2) ∧ (
  ∃ x3 : Int, rd H4 ((⟨H2.size, 0, none⟩ : Addr).add 1) = some (.int .u64 x3) ∧ (
  ∃ x4 : Int, rd H4 (⟨H.size, 0, none⟩ : Addr) = some (.int .u64 x4) ∧ (
  ∃ x5 : Int, rd H4 ((⟨H.size, 0, none⟩ : Addr).add 1) = some (.int .u64 x5) ∧ (
  letV (IntKind.u64.wrap (x2 + x3)) (fun endv : Int =>
  letV (IntKind.u64.wrap (x4 + x5)) (fun stop : Int =>
  ∃ J_ : Bool → Heap → Prop, (
  ∃ x6 : Int, rd H4 (⟨H.size, 0, none⟩ : Addr) = some (.int .u64 x6) ∧ (
  iteB (decide (x6 ≥ endv)) (
  J_ true H4) (
  ∃ x7 : Int, rd H4 (⟨H2.size, 0, none⟩ : Addr) = some (.int .u64 x7) ∧ (
  J_ (decide (stop ≤ x7)) H4)))) ∧ (∀ x8 : Bool, ∀ H5 : Heap, J_ x8 H5 → F_ref21_remove_k2 H I_ M_ out i H2 endv stop x8 H5)))))))))))))) (
  R (.slice out.p out.n out.c) H2)

def F_ref21_remove (R : Value → Heap → Prop) (free : Sl) (x_0 : Int) (x_1 : Int) (H : Heap) : Prop :=
  letH (H.push (.cells #[.int .u64 x_0, .int .u64 x_1] t_api_Range (0, 0))) (fun H1 : Heap =>
  ∃ I_ : Sl → Int → Heap → Prop, ∃ M_ : Sl → Int → Heap → Nat, I_ (Sl.mk none 0 0) (0 : Int) H1 ∧ (∀ out : Sl, ∀ i : Int, ∀ H2 : Heap, I_ out i H2 → F_ref21_remove_r3 R H free I_ M_ out i H2))

theorem F_ref21_remove_eq (R : Value → Heap → Prop) (free : Sl) (x_0 : Int) (x_1 : Int) (H : Heap) : wpF Tryz.prog Tryz.f88 [(5, .slice none 0 0), (6, .int .i64 0), (39, .bool false)] [(8, [39], [0, 3, 5, 6, 7, 8, 9]), (11, [5], [0, 3, 6, 8, 9])] [(3, [5, 6], [0, 3])] [20] [.slice free.p free.n free.c, .agg #[.int .u64 x_0, .int .u64 x_1]] H R = F_ref21_remove R free x_0 x_1 H := by kernel_rfl

theorem F_ref21_remove_ok {R : Value → Heap → Prop} (free : Sl) (x_0 : Int) (x_1 : Int) {H : Heap} (h : F_ref21_remove R free x_0 x_1 H) : CallsH Tryz.prog n_ref21_remove #[.slice free.p free.n free.c, .agg #[.int .u64 x_0, .int .u64 x_1]] H R :=
  wpF_ok Tryz.func88 (F_ref21_remove_eq R free x_0 x_1 H) h

/-! ### 89: slices.stableCmpFunc[int] -/

def F_slices_stableCmpFunc_int_r1 (data : Sl) (n : Int) (cap : Addr) (I_1 : Int → Heap → Prop) (M_1 : Int → Heap → Nat) (blockSize : Int) (H4 : Heap) (I_2 : Int → Int → Heap → Prop) (M_2 : Int → Int → Heap → Nat) (a1 : Int) (b3 : Int) (H5 : Heap) : Prop :=
  iteB (decide (b3 ≤ n)) (
  CallsH Tryz.prog n_slices_symMergeCmpFunc_int #[.slice data.p data.n data.c, .int .i64 a1, .int .i64 (IntKind.i64.wrap (a1 + blockSize)), .int .i64 b3, .func (.func 68) #[] #[.pointer (some cap)]] H5 (fun v2 H6 =>
  v2 = .tuple #[] ∧ (
  letV (IntKind.i64.wrap (b3 + (IntKind.i64.wrap ((2 : Int) * blockSize)))) (fun b4 : Int =>
  I_2 b3 b4 H6 ∧ M_2 b3 b4 H6 < M_2 a1 b3 H5)))) (
  letV (IntKind.i64.wrap (a1 + blockSize)) (fun m : Int =>
  iteB (decide (m < n)) (
  CallsH Tryz.prog n_slices_symMergeCmpFunc_int #[.slice data.p data.n data.c, .int .i64 a1, .int .i64 m, .int .i64 n, .func (.func 68) #[] #[.pointer (some cap)]] H5 (fun v3 H7 =>
  v3 = .tuple #[] ∧ (
  letV (IntKind.i64.wrap (blockSize * (2 : Int))) (fun blockSize1 : Int =>
  I_1 blockSize1 H7 ∧ M_1 blockSize1 H7 < M_1 blockSize H4)))) (
  letV (IntKind.i64.wrap (blockSize * (2 : Int))) (fun blockSize2 : Int =>
  I_1 blockSize2 H5 ∧ M_1 blockSize2 H5 < M_1 blockSize H4))))

def F_slices_stableCmpFunc_int_r2 (R : Value → Heap → Prop) (data : Sl) (n : Int) (cap : Addr) (I_1 : Int → Heap → Prop) (M_1 : Int → Heap → Nat) (blockSize : Int) (H4 : Heap) : Prop :=
  iteB (decide (blockSize < n)) (
  letV (IntKind.i64.wrap ((2 : Int) * blockSize)) (fun b2 : Int =>
  ∃ I_2 : Int → Int → Heap → Prop, ∃ M_2 : Int → Int → Heap → Nat, I_2 (0 : Int) b2 H4 ∧ (∀ a1 : Int, ∀ b3 : Int, ∀ H5 : Heap, I_2 a1 b3 H5 → F_slices_stableCmpFunc_int_r1 data n cap I_1 M_1 blockSize H4 I_2 M_2 a1 b3 H5))) (
  R (.tuple #[]) H4)

def F_slices_stableCmpFunc_int_r3 (R : Value → Heap → Prop) (data : Sl) (n : Int) (cap : Addr) (I_ : Int → Int → Heap → Prop) (M_ : Int → Int → Heap → Nat) (a : Int) (b : Int) (H1 : Heap) : Prop :=
  iteB (decide (b ≤ n)) (
  CallsH Tryz.prog n_slices_insertionSortCmpFunc_int #[.slice data.p data.n data.c, .int .i64 a, .int .i64 b, .func (.func 68) #[] #[.pointer (some cap)]] H1 (fun v H2 =>
  v = .tuple #[] ∧ (
  letV (IntKind.i64.wrap (b + (20 : Int))) (fun b1 : Int =>
  I_ b b1 H2 ∧ M_ b b1 H2 < M_ a b H1)))) (
  CallsH Tryz.prog n_slices_insertionSortCmpFunc_int #[.slice data.p data.n data.c, .int .i64 a, .int .i64 n, .func (.func 68) #[] #[.pointer (some cap)]] H1 (fun v1 H3 =>
  v1 = .tuple #[] ∧ (
  ∃ I_1 : Int → Heap → Prop, ∃ M_1 : Int → Heap → Nat, I_1 (20 : Int) H3 ∧ (∀ blockSize : Int, ∀ H4 : Heap, I_1 blockSize H4 → F_slices_stableCmpFunc_int_r2 R data n cap I_1 M_1 blockSize H4))))

def F_slices_stableCmpFunc_int (R : Value → Heap → Prop) (data : Sl) (n : Int) (cap : Addr) (H : Heap) : Prop :=
  ∃ I_ : Int → Int → Heap → Prop, ∃ M_ : Int → Int → Heap → Nat, I_ (0 : Int) (20 : Int) H ∧ (∀ a : Int, ∀ b : Int, ∀ H1 : Heap, I_ a b H1 → F_slices_stableCmpFunc_int_r3 R data n cap I_ M_ a b H1)

theorem F_slices_stableCmpFunc_int_eq (R : Value → Heap → Prop) (data : Sl) (n : Int) (cap : Addr) (H : Heap) : wpF Tryz.prog Tryz.f89 [(6, .int .i64 0), (7, .int .i64 0), (8, .int .i64 0)] [] [(2, [7, 8], [0, 1, 2, 6]), (7, [6], [0, 1, 2]), (9, [7, 8], [0, 1, 2, 6])] [20] [.slice data.p data.n data.c, .int .i64 n, .func (.func 68) #[] #[.pointer (some cap)]] H R = F_slices_stableCmpFunc_int R data n cap H := by kernel_rfl

theorem F_slices_stableCmpFunc_int_ok {R : Value → Heap → Prop} (data : Sl) (n : Int) (cap : Addr) {H : Heap} (h : F_slices_stableCmpFunc_int R data n cap H) : CallsH Tryz.prog n_slices_stableCmpFunc_int #[.slice data.p data.n data.c, .int .i64 n, .func (.func 68) #[] #[.pointer (some cap)]] H R :=
  wpF_ok Tryz.func89 (F_slices_stableCmpFunc_int_eq R data n cap H) h

/-! ### 90: cmp.isNaN[int] -/

def F_cmp_isNaN_int (R : Value → Heap → Prop) (x : Int) (H : Heap) : Prop :=
  R (.bool (x != x)) H

theorem F_cmp_isNaN_int_eq (R : Value → Heap → Prop) (x : Int) (H : Heap) : wpF Tryz.prog Tryz.f90 [] [] [] [20] [.int .i64 x] H R = F_cmp_isNaN_int R x H := by kernel_rfl

theorem F_cmp_isNaN_int_ok {R : Value → Heap → Prop} (x : Int) {H : Heap} (h : F_cmp_isNaN_int R x H) : CallsH Tryz.prog n_cmp_isNaN_int #[.int .i64 x] H R :=
  wpF_ok Tryz.func90 (F_cmp_isNaN_int_eq R x H) h

/-! ### 91: slices.Clone[[]platformfw/api.Range,platformfw/api.Range] -/

def F_slices_Clone_sl_api_Range_api_Range (R : Value → Heap → Prop) (s : Sl) (H : Heap) : Prop :=
  iteB s.p.isNone (
  R (.slice none 0 0) H) (
  letH (H.push (.cells #[] t_api_Range (0, 0))) (fun H1 : Heap =>
  runH Tryz.prog (Builtin.append_ #[t_sl_api_Range, t_sl_api_Range] t_sl_api_Range #[.slice (some (⟨H.size, 0, none⟩ : Addr)) 0 0, .slice s.p s.n s.c]) H1 (fun v H2 =>
  ∃ x : Sl, v = .slice x.p x.n x.c ∧ (
  R (.slice x.p x.n x.c) H2))))

theorem F_slices_Clone_sl_api_Range_api_Range_eq (R : Value → Heap → Prop) (s : Sl) (H : Heap) : wpF Tryz.prog Tryz.f91 [] [] [] [20] [.slice s.p s.n s.c] H R = F_slices_Clone_sl_api_Range_api_Range R s H := by kernel_rfl

theorem F_slices_Clone_sl_api_Range_api_Range_ok {R : Value → Heap → Prop} (s : Sl) {H : Heap} (h : F_slices_Clone_sl_api_Range_api_Range R s H) : CallsH Tryz.prog n_slices_Clone_sl_api_Range_api_Range #[.slice s.p s.n s.c] H R :=
  wpF_ok Tryz.func91 (F_slices_Clone_sl_api_Range_api_Range_eq R s H) h

/-! ### 94: cmp.Compare[uint64] -/

/-! ### 95: slices.Replace[[]platformfw/api.Range,platformfw/api.Range] -/

def F_slices_Replace_sl_api_Range_api_Range (R : Value → Heap → Prop) (s : Sl) (i : Int) (j : Int) (v : Sl) (H : Heap) : Prop :=
  0 ≤ j ∧ j ≤ (s.c : Int) ∧ (
  0 ≤ i ∧ i ≤ (j.toNat : Int) ∧ (
  iteB (i == j) (
  CallsH Tryz.prog n_slices_Insert_sl_api_Range_api_Range #[.slice s.p s.n s.c, .int .i64 i, .slice v.p v.n v.c] H (fun v1 H1 =>
  ∃ x : Sl, v1 = .slice x.p x.n x.c ∧ (
  R (.slice x.p x.n x.c) H1))) (
  iteB (j == (s.n : Int)) (
  0 ≤ i ∧ i ≤ (s.c : Int) ∧ (
  runH Tryz.prog (Builtin.append_ #[t_sl_api_Range, t_sl_api_Range] t_sl_api_Range #[.slice (slP s.p s.c 0 2) (i.toNat - 0) (s.c - 0), .slice v.p v.n v.c]) H (fun v2 H2 =>
  ∃ s2 : Sl, v2 = .slice s2.p s2.n s2.c ∧ (
  iteB (decide ((s2.n : Int) < (s.n : Int))) (
  0 ≤ (s2.n : Int) ∧ (s2.n : Int) ≤ (s.n : Int) ∧ (
  runH Tryz.prog (Builtin.clear_ #[t_sl_api_Range] 0 #[.slice (slP s.p s.c ((s2.n : Int).toNat) 2) (s.n - (s2.n : Int).toNat) (s.c - (s2.n : Int).toNat)]) H2 (fun v3 H3 =>
  v3 = .tuple #[] ∧ (
  R (.slice s2.p s2.n s2.c) H3)))) (
  R (.slice s2.p s2.n s2.c) H2))))) (
  0 ≤ i ∧ i ≤ (s.c : Int) ∧ (
  0 ≤ j ∧ j ≤ (s.n : Int) ∧ (
  letV (IntKind.i64.wrap ((IntKind.i64.wrap ((((i.toNat - 0) : Nat) : Int) + (v.n : Int))) + (((s.n - j.toNat) : Nat) : Int))) (fun tot : Int =>
  iteB (decide (tot > (s.c : Int))) (
  0 ≤ i ∧ i ≤ (s.c : Int) ∧ (
  runH Tryz.prog (Builtin.append_ #[t_sl_api_Range, t_int] t_sl_api_Range #[.slice (slP s.p s.c 0 2) (i.toNat - 0) (s.c - 0), .int .i64 (IntKind.i64.wrap (tot - i))]) H (fun v4 H4 =>
  ∃ s21 : Sl, v4 = .slice s21.p s21.n s21.c ∧ (
  0 ≤ i ∧ i ≤ (s21.n : Int) ∧ (
  runH Tryz.prog (Builtin.copy_ #[t_sl_api_Range, t_sl_api_Range] t_int #[.slice (slP s21.p s21.c i.toNat 2) (s21.n - i.toNat) (s21.c - i.toNat), .slice v.p v.n v.c]) H4 (fun v5 H5 =>
  ∃ x1 : Int, v5 = .int .i64 x1 ∧ (
  0 ≤ (IntKind.i64.wrap (i + (v.n : Int))) ∧ (IntKind.i64.wrap (i + (v.n : Int))) ≤ (s21.n : Int) ∧ (
  0 ≤ j ∧ j ≤ (s.n : Int) ∧ (
  runH Tryz.prog (Builtin.copy_ #[t_sl_api_Range, t_sl_api_Range] t_int #[.slice (slP s21.p s21.c ((IntKind.i64.wrap (i + (v.n : Int))).toNat) 2) (s21.n - (IntKind.i64.wrap (i + (v.n : Int))).toNat) (s21.c - (IntKind.i64.wrap (i + (v.n : Int))).toNat), .slice (slP s.p s.c j.toNat 2) (s.n - j.toNat) (s.c - j.toNat)]) H5 (fun v6 H6 =>
  ∃ x2 : Int, v6 = .int .i64 x2 ∧ (
  R (.slice s21.p s21.n s21.c) H6))))))))))) (
  0 ≤ tot ∧ tot ≤ (s.c : Int) ∧ (
  iteB (decide ((IntKind.i64.wrap (i + (v.n : Int))) ≤ j)) (
  0 ≤ i ∧ i ≤ (((tot.toNat - 0) : Nat) : Int) ∧ (
  runH Tryz.prog (Builtin.copy_ #[t_sl_api_Range, t_sl_api_Range] t_int #[.slice (slP (slP s.p s.c 0 2) (s.c - 0) i.toNat 2) ((tot.toNat - 0) - i.toNat) ((s.c - 0) - i.toNat), .slice v.p v.n v.c]) H (fun v7 H7 =>
  ∃ x3 : Int, v7 = .int .i64 x3 ∧ (
  0 ≤ (IntKind.i64.wrap (i + (v.n : Int))) ∧ (IntKind.i64.wrap (i + (v.n : Int))) ≤ (((tot.toNat - 0) : Nat) : Int) ∧ (
  0 ≤ j ∧ j ≤ (s.n : Int) ∧ (
  runH Tryz.prog (Builtin.copy_ #[t_sl_api_Range, t_sl_api_Range] t_int #[.slice (slP (slP s.p s.c 0 2) (s.c - 0) ((IntKind.i64.wrap (i + (v.n : Int))).toNat) 2) ((tot.toNat - 0) - (IntKind.i64.wrap (i + (v.n : Int))).toNat) ((s.c - 0) - (IntKind.i64.wrap (i + (v.n : Int))).toNat), .slice (slP s.p s.c j.toNat 2) (s.n - j.toNat) (s.c - j.toNat)]) H7 (fun v8 H8 =>
  ∃ x4 : Int, v8 = .int .i64 x4 ∧ (
  0 ≤ tot ∧ tot ≤ (s.n : Int) ∧ (
  runH Tryz.prog (Builtin.clear_ #[t_sl_api_Range] 0 #[.slice (slP s.p s.c tot.toNat 2) (s.n - tot.toNat) (s.c - tot.toNat)]) H8 (fun v9 H9 =>
  v9 = .tuple #[] ∧ (
  R (.slice (slP s.p s.c 0 2) (tot.toNat - 0) (s.c - 0)) H9))))))))))) (
  0 ≤ (IntKind.i64.wrap (i + (v.n : Int))) ∧ (IntKind.i64.wrap (i + (v.n : Int))) ≤ (((tot.toNat - 0) : Nat) : Int) ∧ (
  runH Tryz.prog (callFunc n_slices_overlaps_api_Range #[.slice (slP (slP s.p s.c 0 2) (s.c - 0) ((IntKind.i64.wrap (i + (v.n : Int))).toNat) 2) ((tot.toNat - 0) - (IntKind.i64.wrap (i + (v.n : Int))).toNat) ((s.c - 0) - (IntKind.i64.wrap (i + (v.n : Int))).toNat), .slice v.p v.n v.c]) H (fun nx H10 => nextV nx (fun v10 =>
  ∃ x5 : Bool, v10 = .bool x5 ∧ (
  iteB (!x5) (
  0 ≤ (IntKind.i64.wrap (i + (v.n : Int))) ∧ (IntKind.i64.wrap (i + (v.n : Int))) ≤ (((tot.toNat - 0) : Nat) : Int) ∧ (
  0 ≤ j ∧ j ≤ (s.n : Int) ∧ (
  runH Tryz.prog (Builtin.copy_ #[t_sl_api_Range, t_sl_api_Range] t_int #[.slice (slP (slP s.p s.c 0 2) (s.c - 0) ((IntKind.i64.wrap (i + (v.n : Int))).toNat) 2) ((tot.toNat - 0) - (IntKind.i64.wrap (i + (v.n : Int))).toNat) ((s.c - 0) - (IntKind.i64.wrap (i + (v.n : Int))).toNat), .slice (slP s.p s.c j.toNat 2) (s.n - j.toNat) (s.c - j.toNat)]) H10 (fun v11 H11 =>
  ∃ x6 : Int, v11 = .int .i64 x6 ∧ (
  0 ≤ i ∧ i ≤ (((tot.toNat - 0) : Nat) : Int) ∧ (
  runH Tryz.prog (Builtin.copy_ #[t_sl_api_Range, t_sl_api_Range] t_int #[.slice (slP (slP s.p s.c 0 2) (s.c - 0) i.toNat 2) ((tot.toNat - 0) - i.toNat) ((s.c - 0) - i.toNat), .slice v.p v.n v.c]) H11 (fun v12 H12 =>
  ∃ x7 : Int, v12 = .int .i64 x7 ∧ (
  R (.slice (slP s.p s.c 0 2) (tot.toNat - 0) (s.c - 0)) H12)))))))) (
  letV (IntKind.i64.wrap ((v.n : Int) - (IntKind.i64.wrap (j - i)))) (fun y : Int =>
  0 ≤ j ∧ j ≤ (((s.c - 0) : Nat) : Int) ∧ (
  0 ≤ i ∧ i ≤ (j.toNat : Int) ∧ (
  runH Tryz.prog (callFunc n_slices_overlaps_api_Range #[.slice (slP (slP s.p s.c 0 2) (s.c - 0) i.toNat 2) (j.toNat - i.toNat) ((s.c - 0) - i.toNat), .slice v.p v.n v.c]) H10 (fun nx1 H13 => nextV nx1 (fun v13 =>
  ∃ x8 : Bool, v13 = .bool x8 ∧ (
  iteB (!x8) (
  0 ≤ j ∧ j ≤ (((s.c - 0) : Nat) : Int) ∧ (
  0 ≤ i ∧ i ≤ (j.toNat : Int) ∧ (
  0 ≤ y ∧ y ≤ (v.n : Int) ∧ (
  runH Tryz.prog (Builtin.copy_ #[t_sl_api_Range, t_sl_api_Range] t_int #[.slice (slP (slP s.p s.c 0 2) (s.c - 0) i.toNat 2) (j.toNat - i.toNat) ((s.c - 0) - i.toNat), .slice (slP v.p v.c y.toNat 2) (v.n - y.toNat) (v.c - y.toNat)]) H13 (fun v14 H14 =>
  ∃ x9 : Int, v14 = .int .i64 x9 ∧ (
  0 ≤ (s.n : Int) ∧ (s.n : Int) ≤ (((tot.toNat - 0) : Nat) : Int) ∧ (
  0 ≤ y ∧ y ≤ (v.c : Int) ∧ (
  runH Tryz.prog (Builtin.copy_ #[t_sl_api_Range, t_sl_api_Range] t_int #[.slice (slP (slP s.p s.c 0 2) (s.c - 0) ((s.n : Int).toNat) 2) ((tot.toNat - 0) - (s.n : Int).toNat) ((s.c - 0) - (s.n : Int).toNat), .slice (slP v.p v.c 0 2) (y.toNat - 0) (v.c - 0)]) H14 (fun v15 H15 =>
  ∃ x10 : Int, v15 = .int .i64 x10 ∧ (
  0 ≤ i ∧ i ≤ (((tot.toNat - 0) : Nat) : Int) ∧ (
  CallsH Tryz.prog n_slices_rotateRight_api_Range #[.slice (slP (slP s.p s.c 0 2) (s.c - 0) i.toNat 2) ((tot.toNat - 0) - i.toNat) ((s.c - 0) - i.toNat), .int .i64 y] H15 (fun v16 H16 =>
  v16 = .tuple #[] ∧ (
  R (.slice (slP s.p s.c 0 2) (tot.toNat - 0) (s.c - 0)) H16))))))))))))) (
  0 ≤ (s.n : Int) ∧ (s.n : Int) ≤ (((tot.toNat - 0) : Nat) : Int) ∧ (
  runH Tryz.prog (callFunc n_slices_overlaps_api_Range #[.slice (slP (slP s.p s.c 0 2) (s.c - 0) ((s.n : Int).toNat) 2) ((tot.toNat - 0) - (s.n : Int).toNat) ((s.c - 0) - (s.n : Int).toNat), .slice v.p v.n v.c]) H13 (fun nx2 H17 => nextV nx2 (fun v17 =>
  ∃ x11 : Bool, v17 = .bool x11 ∧ (
  iteB (!x11) (
  0 ≤ (s.n : Int) ∧ (s.n : Int) ≤ (((tot.toNat - 0) : Nat) : Int) ∧ (
  0 ≤ y ∧ y ≤ (v.c : Int) ∧ (
  runH Tryz.prog (Builtin.copy_ #[t_sl_api_Range, t_sl_api_Range] t_int #[.slice (slP (slP s.p s.c 0 2) (s.c - 0) ((s.n : Int).toNat) 2) ((tot.toNat - 0) - (s.n : Int).toNat) ((s.c - 0) - (s.n : Int).toNat), .slice (slP v.p v.c 0 2) (y.toNat - 0) (v.c - 0)]) H17 (fun v18 H18 =>
  ∃ x12 : Int, v18 = .int .i64 x12 ∧ (
  0 ≤ j ∧ j ≤ (((s.c - 0) : Nat) : Int) ∧ (
  0 ≤ i ∧ i ≤ (j.toNat : Int) ∧ (
  0 ≤ y ∧ y ≤ (v.n : Int) ∧ (
  runH Tryz.prog (Builtin.copy_ #[t_sl_api_Range, t_sl_api_Range] t_int #[.slice (slP (slP s.p s.c 0 2) (s.c - 0) i.toNat 2) (j.toNat - i.toNat) ((s.c - 0) - i.toNat), .slice (slP v.p v.c y.toNat 2) (v.n - y.toNat) (v.c - y.toNat)]) H18 (fun v19 H19 =>
  ∃ x13 : Int, v19 = .int .i64 x13 ∧ (
  0 ≤ i ∧ i ≤ (((tot.toNat - 0) : Nat) : Int) ∧ (
  CallsH Tryz.prog n_slices_rotateRight_api_Range #[.slice (slP (slP s.p s.c 0 2) (s.c - 0) i.toNat 2) ((tot.toNat - 0) - i.toNat) ((s.c - 0) - i.toNat), .int .i64 y] H19 (fun v20 H20 =>
  v20 = .tuple #[] ∧ (
  R (.slice (slP s.p s.c 0 2) (tot.toNat - 0) (s.c - 0)) H20))))))))))))) (
  0 ≤ j ∧ j ≤ (s.n : Int) ∧ (
  CallsH Tryz.prog n_slices_startIdx_api_Range #[.slice v.p v.n v.c, .slice (slP s.p s.c j.toNat 2) (s.n - j.toNat) (s.c - j.toNat)] H17 (fun v21 H21 =>
  ∃ k : Int, v21 = .int .i64 k ∧ (
  0 ≤ i ∧ i ≤ (((tot.toNat - 0) : Nat) : Int) ∧ (
  runH Tryz.prog (Builtin.copy_ #[t_sl_api_Range, t_sl_api_Range] t_int #[.slice (slP (slP s.p s.c 0 2) (s.c - 0) i.toNat 2) ((tot.toNat - 0) - i.toNat) ((s.c - 0) - i.toNat), .slice v.p v.n v.c]) H21 (fun v22 H22 =>
  ∃ x14 : Int, v22 = .int .i64 x14 ∧ (
  0 ≤ (IntKind.i64.wrap (i + (v.n : Int))) ∧ (IntKind.i64.wrap (i + (v.n : Int))) ≤ (((tot.toNat - 0) : Nat) : Int) ∧ (
  0 ≤ (IntKind.i64.wrap (i + k)) ∧ (IntKind.i64.wrap (i + k)) ≤ (((tot.toNat - 0) : Nat) : Int) ∧ (
  runH Tryz.prog (Builtin.copy_ #[t_sl_api_Range, t_sl_api_Range] t_int #[.slice (slP (slP s.p s.c 0 2) (s.c - 0) ((IntKind.i64.wrap (i + (v.n : Int))).toNat) 2) ((tot.toNat - 0) - (IntKind.i64.wrap (i + (v.n : Int))).toNat) ((s.c - 0) - (IntKind.i64.wrap (i + (v.n : Int))).toNat), .slice (slP (slP s.p s.c 0 2) (s.c - 0) ((IntKind.i64.wrap (i + k)).toNat) 2) ((tot.toNat - 0) - (IntKind.i64.wrap (i + k)).toNat) ((s.c - 0) - (IntKind.i64.wrap (i + k)).toNat)]) H22 (fun v23 H23 =>
  ∃ x15 : Int, v23 = .int .i64 x15 ∧ (
  R (.slice (slP s.p s.c 0 2) (tot.toNat - 0) (s.c - 0)) H23)))))))))))))))))))))))))))))))))))))

theorem F_slices_Replace_sl_api_Range_api_Range_eq (R : Value → Heap → Prop) (s : Sl) (i : Int) (j : Int) (v : Sl) (H : Heap) : wpF Tryz.prog Tryz.f95 [] [] [] [20] [.slice s.p s.n s.c, .int .i64 i, .int .i64 j, .slice v.p v.n v.c] H R = F_slices_Replace_sl_api_Range_api_Range R s i j v H := by kernel_rfl

theorem F_slices_Replace_sl_api_Range_api_Range_ok {R : Value → Heap → Prop} (s : Sl) (i : Int) (j : Int) (v : Sl) {H : Heap} (h : F_slices_Replace_sl_api_Range_api_Range R s i j v H) : CallsH Tryz.prog n_slices_Replace_sl_api_Range_api_Range #[.slice s.p s.n s.c, .int .i64 i, .int .i64 j, .slice v.p v.n v.c] H R :=
  wpF_ok Tryz.func95 (F_slices_Replace_sl_api_Range_api_Range_eq R s i j v H) h

/-! ### 96: platformfw/allocate.countBlocks -/

def F_allocate_countBlocks_r1 (R : Value → Heap → Prop) (l : Sl) (k : Int) (size : Int) (I_ : Int → Int → Heap → Prop) (M_ : Int → Int → Heap → Nat) (count : Int) (x : Int) (H1 : Heap) : Prop :=
  iteB (decide (x < (l.n : Int))) (
  0 ≤ x ∧ x < (l.n : Int) ∧ (unSome l.p (fun a =>
  ∃ x1 : Int, rd H1 (a.add (x.toNat * 2)) = some (.int .u64 x1) ∧ ∃ x2 : Int, rd H1 ((a.add (x.toNat * 2)).add 1) = some (.int .u64 x2) ∧ (
  letH (H1.push (.cells #[.int .u64 (0 : Int), .int .u64 (0 : Int)] t_api_Range (0, 0))) (fun H2 : Heap =>
  okRow H2 (⟨H1.size, 0, none⟩ : Addr) 2 ∧ (
  letH (wrs H2 (⟨H1.size, 0, none⟩ : Addr) [.int .u64 x1, .int .u64 x2]) (fun H3 : Heap =>
  ∃ x3 : Int, rd H3 (⟨H1.size, 0, none⟩ : Addr) = some (.int .u64 x3) ∧ (
  0 ≤ k ∧ (
  letV ((IntKind.u64.wrap ((IntKind.u64.wrap (x3 + size)) - (1 : Int))).fdiv (2 ^ (min k.toNat IntKind.u64.bits))) (fun first : Int =>
  ∃ x4 : Int, rd H3 (⟨H1.size, 0, none⟩ : Addr) = some (.int .u64 x4) ∧ (
  ∃ x5 : Int, rd H3 ((⟨H1.size, 0, none⟩ : Addr).add 1) = some (.int .u64 x5) ∧ (
  0 ≤ k ∧ (
  letV ((IntKind.u64.wrap (x4 + x5)).fdiv (2 ^ (min k.toNat IntKind.u64.bits))) (fun last : Int =>
  iteB (decide (last > first)) (
  letV (IntKind.u64.wrap (count + (IntKind.u64.wrap (last - first)))) (fun count1 : Int =>
  I_ count1 (IntKind.i64.wrap (x + (1 : Int))) H3 ∧ M_ count1 (IntKind.i64.wrap (x + (1 : Int))) H3 < M_ count x H1)) (
  I_ count (IntKind.i64.wrap (x + (1 : Int))) H3 ∧ M_ count (IntKind.i64.wrap (x + (1 : Int))) H3 < M_ count x H1))))))))))))))) (
  R (.int .u64 count) H1)

def F_allocate_countBlocks (R : Value → Heap → Prop) (l : Sl) (k : Int) (H : Heap) : Prop :=
  0 ≤ k ∧ (
  letV (IntKind.u64.wrap ((1 : Int) * 2 ^ (min k.toNat IntKind.u64.bits))) (fun size : Int =>
  ∃ I_ : Int → Int → Heap → Prop, ∃ M_ : Int → Int → Heap → Nat, I_ (0 : Int) (0 : Int) H ∧ (∀ count : Int, ∀ x : Int, ∀ H1 : Heap, I_ count x H1 → F_allocate_countBlocks_r1 R l k size I_ M_ count x H1)))

theorem F_allocate_countBlocks_eq (R : Value → Heap → Prop) (l : Sl) (k : Int) (H : Heap) : wpF Tryz.prog Tryz.f96 [(5, .int .u64 0), (15, .int .i64 0)] [] [(4, [5, 15], [1, 6, 13, 14])] [20] [.slice l.p l.n l.c, .int .i64 k] H R = F_allocate_countBlocks R l k H := by kernel_rfl

theorem F_allocate_countBlocks_ok {R : Value → Heap → Prop} (l : Sl) (k : Int) {H : Heap} (h : F_allocate_countBlocks R l k H) : CallsH Tryz.prog n_allocate_countBlocks #[.slice l.p l.n l.c, .int .i64 k] H R :=
  wpF_ok Tryz.func96 (F_allocate_countBlocks_eq R l k H) h

/-! ### 97: math/bits.Len64 -/

def F_math_bits_Len64_k1 (R : Value → Heap → Prop) (x6 : Int) (n4 : Int) (H3 : Heap) : Prop :=
  0 ≤ (IntKind.u8.wrap x6) ∧ (IntKind.u8.wrap x6) < (cstr_0.size : Int) ∧ (
  letV (IntKind.i64.wrap (n4 + (IntKind.i64.wrap (cstr_0[(IntKind.u8.wrap x6).toNat]!.toNat : Int)))) (fun n5 : Int =>
  R (.int .i64 n5) H3))

def F_math_bits_Len64_k2 (R : Value → Heap → Prop) (x4 : Int) (n2 : Int) (H2 : Heap) : Prop :=
  ∃ J_2 : Int → Int → Heap → Prop, (
  iteB (decide (x4 ≥ (256 : Int))) (
  0 ≤ (8 : Int) ∧ (
  letV (x4.fdiv (2 ^ (min (8 : Int).toNat IntKind.u64.bits))) (fun x5 : Int =>
  letV (IntKind.i64.wrap (n2 + (8 : Int))) (fun n3 : Int =>
  J_2 x5 n3 H2)))) (
  J_2 x4 n2 H2)) ∧ (∀ x6 : Int, ∀ n4 : Int, ∀ H3 : Heap, J_2 x6 n4 H3 → F_math_bits_Len64_k1 R x6 n4 H3)

def F_math_bits_Len64_k3 (R : Value → Heap → Prop) (x2 : Int) (n : Int) (H1 : Heap) : Prop :=
  ∃ J_1 : Int → Int → Heap → Prop, (
  iteB (decide (x2 ≥ (65536 : Int))) (
  0 ≤ (16 : Int) ∧ (
  letV (x2.fdiv (2 ^ (min (16 : Int).toNat IntKind.u64.bits))) (fun x3 : Int =>
  letV (IntKind.i64.wrap (n + (16 : Int))) (fun n1 : Int =>
  J_1 x3 n1 H1)))) (
  J_1 x2 n H1)) ∧ (∀ x4 : Int, ∀ n2 : Int, ∀ H2 : Heap, J_1 x4 n2 H2 → F_math_bits_Len64_k2 R x4 n2 H2)

def F_math_bits_Len64 (R : Value → Heap → Prop) (x : Int) (H : Heap) : Prop :=
  ∃ J_ : Int → Int → Heap → Prop, (
  iteB (decide (x ≥ (4294967296 : Int))) (
  0 ≤ (32 : Int) ∧ (
  letV (x.fdiv (2 ^ (min (32 : Int).toNat IntKind.u64.bits))) (fun x1 : Int =>
  J_ x1 (32 : Int) H))) (
  J_ x (0 : Int) H)) ∧ (∀ x2 : Int, ∀ n : Int, ∀ H1 : Heap, J_ x2 n H1 → F_math_bits_Len64_k3 R x2 n H1)

theorem F_math_bits_Len64_eq (R : Value → Heap → Prop) (x : Int) (H : Heap) : wpF Tryz.prog Tryz.f97 [(0, .int .u64 0), (2, .int .i64 0)] [(4, [0, 2], []), (7, [0, 2], []), (10, [0, 2], [])] [] [20] [.int .u64 x] H R = F_math_bits_Len64 R x H := by kernel_rfl

theorem F_math_bits_Len64_ok {R : Value → Heap → Prop} (x : Int) {H : Heap} (h : F_math_bits_Len64 R x H) : CallsH Tryz.prog n_math_bits_Len64 #[.int .u64 x] H R :=
  wpF_ok Tryz.func97 (F_math_bits_Len64_eq R x H) h

/-! ### 98: platformfw/platformfwref21.demand -/

def F_ref21_demand_r1 (R : Value → Heap → Prop) (sizes : Sl) (k : Int) (I_ : Int → Int → Heap → Prop) (M_ : Int → Int → Heap → Nat) (n : Int) (i : Int) (H1 : Heap) : Prop :=
  iteB (decide (i < (sizes.n : Int))) (
  0 ≤ i ∧ i < (sizes.n : Int) ∧ (unSome sizes.p (fun a =>
  ∃ x : Int, rd H1 (a.add (i.toNat * 1)) = some (.int .i64 x) ∧ (
  iteB (decide (x ≥ k)) (
  0 ≤ i ∧ i < (sizes.n : Int) ∧ (unSome sizes.p (fun a1 =>
  ∃ x1 : Int, rd H1 (a1.add (i.toNat * 1)) = some (.int .i64 x1) ∧ (
  0 ≤ (IntKind.u64.wrap x1) ∧ (
  letV (IntKind.u64.wrap (n + (IntKind.u64.wrap ((1 : Int) * 2 ^ (min (IntKind.u64.wrap x1).toNat IntKind.u64.bits))))) (fun n1 : Int =>
  letV (IntKind.i64.wrap (i + (1 : Int))) (fun i1 : Int =>
  I_ n1 i1 H1 ∧ M_ n1 i1 H1 < M_ n i H1))))))) (
  letV (IntKind.i64.wrap (i + (1 : Int))) (fun i2 : Int =>
  I_ n i2 H1 ∧ M_ n i2 H1 < M_ n i H1)))))) (
  R (.int .u64 n) H1)

def F_ref21_demand (R : Value → Heap → Prop) (sizes : Sl) (k : Int) (H : Heap) : Prop :=
  ∃ I_ : Int → Int → Heap → Prop, ∃ M_ : Int → Int → Heap → Nat, I_ (0 : Int) (0 : Int) H ∧ (∀ n : Int, ∀ i : Int, ∀ H1 : Heap, I_ n i H1 → F_ref21_demand_r1 R sizes k I_ M_ n i H1)

theorem F_ref21_demand_eq (R : Value → Heap → Prop) (sizes : Sl) (k : Int) (H : Heap) : wpF Tryz.prog Tryz.f98 [(5, .int .u64 0), (6, .int .i64 0)] [] [(3, [5, 6], [0, 1])] [20] [.slice sizes.p sizes.n sizes.c, .int .i64 k] H R = F_ref21_demand R sizes k H := by kernel_rfl

theorem F_ref21_demand_ok {R : Value → Heap → Prop} (sizes : Sl) (k : Int) {H : Heap} (h : F_ref21_demand R sizes k H) : CallsH Tryz.prog n_ref21_demand #[.slice sizes.p sizes.n sizes.c, .int .i64 k] H R :=
  wpF_ok Tryz.func98 (F_ref21_demand_eq R sizes k H) h

/-! ### 99: platformfw/platformfwref21.Blocks -/

def F_ref21_Blocks_r1 (R : Value → Heap → Prop) (k : Int) (l : Sl) (I_ : Int → Int → Heap → Prop) (M_ : Int → Int → Heap → Nat) (n : Int) (i : Int) (H3 : Heap) : Prop :=
  iteB (decide (i < (l.n : Int))) (
  0 ≤ i ∧ i < (l.n : Int) ∧ (unSome l.p (fun a =>
  ∃ x1 : Int, rd H3 (a.add (i.toNat * 2)) = some (.int .u64 x1) ∧ (
  0 ≤ i ∧ i < (l.n : Int) ∧ (unSome l.p (fun a1 =>
  ∃ x2 : Int, rd H3 (a1.add (i.toNat * 2)) = some (.int .u64 x2) ∧ (
  0 ≤ i ∧ i < (l.n : Int) ∧ (unSome l.p (fun a2 =>
  ∃ x3 : Int, rd H3 ((a2.add (i.toNat * 2)).add 1) = some (.int .u64 x3) ∧ (
  CallsH Tryz.prog n_ref21_up #[.int .u64 x1, .int .i64 k] H3 (fun v2 H4 =>
  ∃ atv : Int, v2 = .int .u64 atv ∧ (
  Keeps H3 H4 [((a1.add (i.toNat * 2)), 1), (((a2.add (i.toNat * 2)).add 1), 1)] ∧ (
  letV (IntKind.u64.wrap (x2 + x3)) (fun endv : Int =>
  iteB (decide (atv < endv)) (
  0 ≤ (IntKind.u64.wrap k) ∧ (
  letV (IntKind.u64.wrap (n + ((IntKind.u64.wrap (endv - atv)).fdiv (2 ^ (min (IntKind.u64.wrap k).toNat IntKind.u64.bits))))) (fun n1 : Int =>
  letV (IntKind.i64.wrap (i + (1 : Int))) (fun i1 : Int =>
  I_ n1 i1 H4 ∧ M_ n1 i1 H4 < M_ n i H3)))) (
  letV (IntKind.i64.wrap (i + (1 : Int))) (fun i2 : Int =>
  I_ n i2 H4 ∧ M_ n i2 H4 < M_ n i H3)))))))))))))))) (
  R (.int .u64 n) H3)

def F_ref21_Blocks (R : Value → Heap → Prop) (free : Sl) (k : Int) (H : Heap) : Prop :=
  iteB (decide (k < (0 : Int))) (
  R (.int .u64 (0 : Int)) H) (
  iteB (decide (k > (52 : Int))) (
  R (.int .u64 (0 : Int)) H) (
  CallsH Tryz.prog n_ref21_ValidRanges #[.slice free.p free.n free.c] H (fun v H1 =>
  ∃ x : Bool, v = .bool x ∧ (
  iteB (!x) (
  R (.int .u64 (0 : Int)) H1) (
  CallsH Tryz.prog n_ref21_merge #[.slice free.p free.n free.c] H1 (fun v1 H2 =>
  ∃ l : Sl, v1 = .slice l.p l.n l.c ∧ (
  ∃ I_ : Int → Int → Heap → Prop, ∃ M_ : Int → Int → Heap → Nat, I_ (0 : Int) (0 : Int) H2 ∧ (∀ n : Int, ∀ i : Int, ∀ H3 : Heap, I_ n i H3 → F_ref21_Blocks_r1 R k l I_ M_ n i H3))))))))

theorem F_ref21_Blocks_eq (R : Value → Heap → Prop) (free : Sl) (k : Int) (H : Heap) : wpF Tryz.prog Tryz.f99 [(5, .int .u64 0), (7, .int .i64 0)] [] [(6, [5, 7], [1, 6])] [20] [.slice free.p free.n free.c, .int .i64 k] H R = F_ref21_Blocks R free k H := by kernel_rfl

theorem F_ref21_Blocks_ok {R : Value → Heap → Prop} (free : Sl) (k : Int) {H : Heap} (h : F_ref21_Blocks R free k H) : CallsH Tryz.prog n_ref21_Blocks #[.slice free.p free.n free.c, .int .i64 k] H R :=
  wpF_ok Tryz.func99 (F_ref21_Blocks_eq R free k H) h

/-! ### 100: slices.insertionSortCmpFunc[int] -/

def F_slices_insertionSortCmpFunc_int_r1 (data : Sl) (a : Int) (cap : Addr) (I_ : Int → Heap → Prop) (M_ : Int → Heap → Nat) (i1 : Int) (H1 : Heap) (I_1 : Int → Heap → Prop) (M_1 : Int → Heap → Nat) (j : Int) (H2 : Heap) : Prop :=
  iteB (decide (j > a)) (
  0 ≤ j ∧ j < (data.n : Int) ∧ (unSome data.p (fun a1 =>
  ∃ x : Int, rd H2 (a1.add (j.toNat * 1)) = some (.int .i64 x) ∧ (
  0 ≤ (IntKind.i64.wrap (j - (1 : Int))) ∧ (IntKind.i64.wrap (j - (1 : Int))) < (data.n : Int) ∧ (unSome data.p (fun a2 =>
  ∃ x1 : Int, rd H2 (a2.add ((IntKind.i64.wrap (j - (1 : Int))).toNat * 1)) = some (.int .i64 x1) ∧ (
  CallsH Tryz.prog n_allocate_Place_1 #[.int .i64 x, .int .i64 x1, .pointer (some cap)] H2 (fun v H3 =>
  ∃ x2 : Int, v = .int .i64 x2 ∧ (
  iteB (decide (x2 < (0 : Int))) (
  0 ≤ (IntKind.i64.wrap (j - (1 : Int))) ∧ (IntKind.i64.wrap (j - (1 : Int))) < (data.n : Int) ∧ (unSome data.p (fun a3 =>
  ∃ x3 : Int, rd H3 (a3.add ((IntKind.i64.wrap (j - (1 : Int))).toNat * 1)) = some (.int .i64 x3) ∧ (
  0 ≤ j ∧ j < (data.n : Int) ∧ (unSome data.p (fun a4 =>
  ∃ x4 : Int, rd H3 (a4.add (j.toNat * 1)) = some (.int .i64 x4) ∧ (
  0 ≤ j ∧ j < (data.n : Int) ∧ (unSome data.p (fun a5 =>
  okRow H3 (a5.add (j.toNat * 1)) 1 ∧ (
  letH (wrs H3 (a5.add (j.toNat * 1)) [.int .i64 x3]) (fun H4 : Heap =>
  0 ≤ (IntKind.i64.wrap (j - (1 : Int))) ∧ (IntKind.i64.wrap (j - (1 : Int))) < (data.n : Int) ∧ (unSome data.p (fun a6 =>
  okRow H4 (a6.add ((IntKind.i64.wrap (j - (1 : Int))).toNat * 1)) 1 ∧ (
  letH (wrs H4 (a6.add ((IntKind.i64.wrap (j - (1 : Int))).toNat * 1)) [.int .i64 x4]) (fun H5 : Heap =>
  letV (IntKind.i64.wrap (j - (1 : Int))) (fun j1 : Int =>
  I_1 j1 H5 ∧ M_1 j1 H5 < M_1 j H2)))))))))))))))) (
  letV (IntKind.i64.wrap (i1 + (1 : Int))) (fun i2 : Int =>
  I_ i2 H3 ∧ M_ i2 H3 < M_ i1 H1))))))))))) (
  letV (IntKind.i64.wrap (i1 + (1 : Int))) (fun i3 : Int =>
  I_ i3 H2 ∧ M_ i3 H2 < M_ i1 H1))

def F_slices_insertionSortCmpFunc_int_r2 (R : Value → Heap → Prop) (data : Sl) (a : Int) (b : Int) (cap : Addr) (I_ : Int → Heap → Prop) (M_ : Int → Heap → Nat) (i1 : Int) (H1 : Heap) : Prop :=
  iteB (decide (i1 < b)) (
  ∃ I_1 : Int → Heap → Prop, ∃ M_1 : Int → Heap → Nat, I_1 i1 H1 ∧ (∀ j : Int, ∀ H2 : Heap, I_1 j H2 → F_slices_insertionSortCmpFunc_int_r1 data a cap I_ M_ i1 H1 I_1 M_1 j H2)) (
  R (.tuple #[]) H1)

def F_slices_insertionSortCmpFunc_int (R : Value → Heap → Prop) (data : Sl) (a : Int) (b : Int) (cap : Addr) (H : Heap) : Prop :=
  letV (IntKind.i64.wrap (a + (1 : Int))) (fun i : Int =>
  ∃ I_ : Int → Heap → Prop, ∃ M_ : Int → Heap → Nat, I_ i H ∧ (∀ i1 : Int, ∀ H1 : Heap, I_ i1 H1 → F_slices_insertionSortCmpFunc_int_r2 R data a b cap I_ M_ i1 H1))

theorem F_slices_insertionSortCmpFunc_int_eq (R : Value → Heap → Prop) (data : Sl) (a : Int) (b : Int) (cap : Addr) (H : Heap) : wpF Tryz.prog Tryz.f100 [(8, .int .i64 0), (9, .int .i64 0)] [] [(1, [8], [0, 1, 2, 3]), (4, [9], [0, 1, 2, 3, 8])] [20] [.slice data.p data.n data.c, .int .i64 a, .int .i64 b, .func (.func 68) #[] #[.pointer (some cap)]] H R = F_slices_insertionSortCmpFunc_int R data a b cap H := by kernel_rfl

theorem F_slices_insertionSortCmpFunc_int_ok {R : Value → Heap → Prop} (data : Sl) (a : Int) (b : Int) (cap : Addr) {H : Heap} (h : F_slices_insertionSortCmpFunc_int R data a b cap H) : CallsH Tryz.prog n_slices_insertionSortCmpFunc_int #[.slice data.p data.n data.c, .int .i64 a, .int .i64 b, .func (.func 68) #[] #[.pointer (some cap)]] H R :=
  wpF_ok Tryz.func100 (F_slices_insertionSortCmpFunc_int_eq R data a b cap H) h

/-! ### 101: slices.symMergeCmpFunc[int] -/

def F_slices_symMergeCmpFunc_int_r1 (R : Value → Heap → Prop) (data : Sl) (i : Int) (I_1 : Int → Heap → Prop) (M_1 : Int → Heap → Nat) (k : Int) (H3 : Heap) : Prop :=
  iteB (decide (k < (IntKind.i64.wrap (i - (1 : Int))))) (
  0 ≤ (IntKind.i64.wrap (k + (1 : Int))) ∧ (IntKind.i64.wrap (k + (1 : Int))) < (data.n : Int) ∧ (unSome data.p (fun a3 =>
  ∃ x3 : Int, rd H3 (a3.add ((IntKind.i64.wrap (k + (1 : Int))).toNat * 1)) = some (.int .i64 x3) ∧ (
  0 ≤ k ∧ k < (data.n : Int) ∧ (unSome data.p (fun a4 =>
  ∃ x4 : Int, rd H3 (a4.add (k.toNat * 1)) = some (.int .i64 x4) ∧ (
  0 ≤ k ∧ k < (data.n : Int) ∧ (unSome data.p (fun a5 =>
  okRow H3 (a5.add (k.toNat * 1)) 1 ∧ (
  letH (wrs H3 (a5.add (k.toNat * 1)) [.int .i64 x3]) (fun H4 : Heap =>
  0 ≤ (IntKind.i64.wrap (k + (1 : Int))) ∧ (IntKind.i64.wrap (k + (1 : Int))) < (data.n : Int) ∧ (unSome data.p (fun a6 =>
  okRow H4 (a6.add ((IntKind.i64.wrap (k + (1 : Int))).toNat * 1)) 1 ∧ (
  letH (wrs H4 (a6.add ((IntKind.i64.wrap (k + (1 : Int))).toNat * 1)) [.int .i64 x4]) (fun H5 : Heap =>
  letV (IntKind.i64.wrap (k + (1 : Int))) (fun k1 : Int =>
  I_1 k1 H5 ∧ M_1 k1 H5 < M_1 k H3)))))))))))))))) (
  R (.tuple #[]) H3)

def F_slices_symMergeCmpFunc_int_r2 (R : Value → Heap → Prop) (data : Sl) (a : Int) (cap : Addr) (I_ : Int → Int → Heap → Prop) (M_ : Int → Int → Heap → Nat) (i : Int) (j : Int) (H1 : Heap) : Prop :=
  iteB (decide (i < j)) (
  0 ≤ (1 : Int) ∧ (
  letV (IntKind.i64.wrap ((IntKind.u64.wrap (IntKind.i64.wrap (i + j))).fdiv (2 ^ (min (1 : Int).toNat IntKind.u64.bits)))) (fun h : Int =>
  0 ≤ h ∧ h < (data.n : Int) ∧ (unSome data.p (fun a1 =>
  ∃ x : Int, rd H1 (a1.add (h.toNat * 1)) = some (.int .i64 x) ∧ (
  0 ≤ a ∧ a < (data.n : Int) ∧ (unSome data.p (fun a2 =>
  ∃ x1 : Int, rd H1 (a2.add (a.toNat * 1)) = some (.int .i64 x1) ∧ (
  CallsH Tryz.prog n_allocate_Place_1 #[.int .i64 x, .int .i64 x1, .pointer (some cap)] H1 (fun v H2 =>
  ∃ x2 : Int, v = .int .i64 x2 ∧ (
  iteB (decide (x2 < (0 : Int))) (
  letV (IntKind.i64.wrap (h + (1 : Int))) (fun i1 : Int =>
  I_ i1 j H2 ∧ M_ i1 j H2 < M_ i j H1)) (
  I_ i h H2 ∧ M_ i h H2 < M_ i j H1)))))))))))) (
  ∃ I_1 : Int → Heap → Prop, ∃ M_1 : Int → Heap → Nat, I_1 a H1 ∧ (∀ k : Int, ∀ H3 : Heap, I_1 k H3 → F_slices_symMergeCmpFunc_int_r1 R data i I_1 M_1 k H3))

def F_slices_symMergeCmpFunc_int_r3 (R : Value → Heap → Prop) (data : Sl) (i2 : Int) (I_3 : Int → Heap → Prop) (M_3 : Int → Heap → Nat) (k2 : Int) (H8 : Heap) : Prop :=
  iteB (decide (k2 > i2)) (
  0 ≤ (IntKind.i64.wrap (k2 - (1 : Int))) ∧ (IntKind.i64.wrap (k2 - (1 : Int))) < (data.n : Int) ∧ (unSome data.p (fun a9 =>
  ∃ x8 : Int, rd H8 (a9.add ((IntKind.i64.wrap (k2 - (1 : Int))).toNat * 1)) = some (.int .i64 x8) ∧ (
  0 ≤ k2 ∧ k2 < (data.n : Int) ∧ (unSome data.p (fun a10 =>
  ∃ x9 : Int, rd H8 (a10.add (k2.toNat * 1)) = some (.int .i64 x9) ∧ (
  0 ≤ k2 ∧ k2 < (data.n : Int) ∧ (unSome data.p (fun a11 =>
  okRow H8 (a11.add (k2.toNat * 1)) 1 ∧ (
  letH (wrs H8 (a11.add (k2.toNat * 1)) [.int .i64 x8]) (fun H9 : Heap =>
  0 ≤ (IntKind.i64.wrap (k2 - (1 : Int))) ∧ (IntKind.i64.wrap (k2 - (1 : Int))) < (data.n : Int) ∧ (unSome data.p (fun a12 =>
  okRow H9 (a12.add ((IntKind.i64.wrap (k2 - (1 : Int))).toNat * 1)) 1 ∧ (
  letH (wrs H9 (a12.add ((IntKind.i64.wrap (k2 - (1 : Int))).toNat * 1)) [.int .i64 x9]) (fun H10 : Heap =>
  letV (IntKind.i64.wrap (k2 - (1 : Int))) (fun k3 : Int =>
  I_3 k3 H10 ∧ M_3 k3 H10 < M_3 k2 H8)))))))))))))))) (
  R (.tuple #[]) H8)

def F_slices_symMergeCmpFunc_int_r4 (R : Value → Heap → Prop) (data : Sl) (m : Int) (cap : Addr) (I_2 : Int → Int → Heap → Prop) (M_2 : Int → Int → Heap → Nat) (i2 : Int) (j1 : Int) (H6 : Heap) : Prop :=
  iteB (decide (i2 < j1)) (
  0 ≤ (1 : Int) ∧ (
  letV (IntKind.i64.wrap ((IntKind.u64.wrap (IntKind.i64.wrap (i2 + j1))).fdiv (2 ^ (min (1 : Int).toNat IntKind.u64.bits)))) (fun h1 : Int =>
  0 ≤ m ∧ m < (data.n : Int) ∧ (unSome data.p (fun a7 =>
  ∃ x5 : Int, rd H6 (a7.add (m.toNat * 1)) = some (.int .i64 x5) ∧ (
  0 ≤ h1 ∧ h1 < (data.n : Int) ∧ (unSome data.p (fun a8 =>
  ∃ x6 : Int, rd H6 (a8.add (h1.toNat * 1)) = some (.int .i64 x6) ∧ (
  CallsH Tryz.prog n_allocate_Place_1 #[.int .i64 x5, .int .i64 x6, .pointer (some cap)] H6 (fun v1 H7 =>
  ∃ x7 : Int, v1 = .int .i64 x7 ∧ (
  iteB (!(decide (x7 < (0 : Int)))) (
  letV (IntKind.i64.wrap (h1 + (1 : Int))) (fun i3 : Int =>
  I_2 i3 j1 H7 ∧ M_2 i3 j1 H7 < M_2 i2 j1 H6)) (
  I_2 i2 h1 H7 ∧ M_2 i2 h1 H7 < M_2 i2 j1 H6)))))))))))) (
  ∃ I_3 : Int → Heap → Prop, ∃ M_3 : Int → Heap → Nat, I_3 m H6 ∧ (∀ k2 : Int, ∀ H8 : Heap, I_3 k2 H8 → F_slices_symMergeCmpFunc_int_r3 R data i2 I_3 M_3 k2 H8))

def F_slices_symMergeCmpFunc_int_k5 (data : Sl) (m : Int) (cap : Addr) (start2 : Int) (endv : Int) (J_1 : Heap → Prop) (x13 : Bool) (H14 : Heap) : Prop :=
  iteB x13 (
  CallsH Tryz.prog n_slices_rotateCmpFunc_int #[.slice data.p data.n data.c, .int .i64 start2, .int .i64 m, .int .i64 endv, .func (.func 68) #[] #[.pointer (some cap)]] H14 (fun v3 H15 =>
  v3 = .tuple #[] ∧ (
  J_1 H15))) (
  J_1 H14)

def F_slices_symMergeCmpFunc_int_k6 (data : Sl) (a : Int) (cap : Addr) (mid : Int) (start2 : Int) (J_3 : Heap → Prop) (x14 : Bool) (H17 : Heap) : Prop :=
  iteB x14 (
  CallsH Tryz.prog n_slices_symMergeCmpFunc_int #[.slice data.p data.n data.c, .int .i64 a, .int .i64 start2, .int .i64 mid, .func (.func 68) #[] #[.pointer (some cap)]] H17 (fun v4 H18 =>
  v4 = .tuple #[] ∧ (
  J_3 H18))) (
  J_3 H17)

def F_slices_symMergeCmpFunc_int_k7 (R : Value → Heap → Prop) (data : Sl) (b : Int) (cap : Addr) (mid : Int) (endv : Int) (x15 : Bool) (H20 : Heap) : Prop :=
  iteB x15 (
  CallsH Tryz.prog n_slices_symMergeCmpFunc_int #[.slice data.p data.n data.c, .int .i64 mid, .int .i64 endv, .int .i64 b, .func (.func 68) #[] #[.pointer (some cap)]] H20 (fun v5 H21 =>
  v5 = .tuple #[] ∧ (
  R (.tuple #[]) H21))) (
  R (.tuple #[]) H20)

def F_slices_symMergeCmpFunc_int_k8 (R : Value → Heap → Prop) (data : Sl) (b : Int) (cap : Addr) (mid : Int) (endv : Int) (H19 : Heap) : Prop :=
  ∃ J_5 : Bool → Heap → Prop, (
  iteB (decide (mid < endv)) (
  J_5 (decide (endv < b)) H19) (
  J_5 false H19)) ∧ (∀ x15 : Bool, ∀ H20 : Heap, J_5 x15 H20 → F_slices_symMergeCmpFunc_int_k7 R data b cap mid endv x15 H20)

def F_slices_symMergeCmpFunc_int_k9 (R : Value → Heap → Prop) (data : Sl) (a : Int) (b : Int) (cap : Addr) (mid : Int) (start2 : Int) (endv : Int) (H16 : Heap) : Prop :=
  ∃ J_3 : Heap → Prop, (
  ∃ J_4 : Bool → Heap → Prop, (
  iteB (decide (a < start2)) (
  J_4 (decide (start2 < mid)) H16) (
  J_4 false H16)) ∧ (∀ x14 : Bool, ∀ H17 : Heap, J_4 x14 H17 → F_slices_symMergeCmpFunc_int_k6 data a cap mid start2 J_3 x14 H17)) ∧ (∀ H19 : Heap, J_3 H19 → F_slices_symMergeCmpFunc_int_k8 R data b cap mid endv H19)

def F_slices_symMergeCmpFunc_int_r10 (R : Value → Heap → Prop) (data : Sl) (a : Int) (m : Int) (b : Int) (cap : Addr) (mid : Int) (n : Int) (p : Int) (I_4 : Int → Int → Heap → Prop) (M_4 : Int → Int → Heap → Nat) (start2 : Int) (r1 : Int) (H12 : Heap) : Prop :=
  iteB (decide (start2 < r1)) (
  0 ≤ (1 : Int) ∧ (
  letV (IntKind.i64.wrap ((IntKind.u64.wrap (IntKind.i64.wrap (start2 + r1))).fdiv (2 ^ (min (1 : Int).toNat IntKind.u64.bits)))) (fun c : Int =>
  0 ≤ (IntKind.i64.wrap (p - c)) ∧ (IntKind.i64.wrap (p - c)) < (data.n : Int) ∧ (unSome data.p (fun a13 =>
  ∃ x10 : Int, rd H12 (a13.add ((IntKind.i64.wrap (p - c)).toNat * 1)) = some (.int .i64 x10) ∧ (
  0 ≤ c ∧ c < (data.n : Int) ∧ (unSome data.p (fun a14 =>
  ∃ x11 : Int, rd H12 (a14.add (c.toNat * 1)) = some (.int .i64 x11) ∧ (
  CallsH Tryz.prog n_allocate_Place_1 #[.int .i64 x10, .int .i64 x11, .pointer (some cap)] H12 (fun v2 H13 =>
  ∃ x12 : Int, v2 = .int .i64 x12 ∧ (
  iteB (!(decide (x12 < (0 : Int)))) (
  letV (IntKind.i64.wrap (c + (1 : Int))) (fun start3 : Int =>
  I_4 start3 r1 H13 ∧ M_4 start3 r1 H13 < M_4 start2 r1 H12)) (
  I_4 start2 c H13 ∧ M_4 start2 c H13 < M_4 start2 r1 H12)))))))))))) (
  letV (IntKind.i64.wrap (n - start2)) (fun endv : Int =>
  ∃ J_1 : Heap → Prop, (
  ∃ J_2 : Bool → Heap → Prop, (
  iteB (decide (start2 < m)) (
  J_2 (decide (m < endv)) H12) (
  J_2 false H12)) ∧ (∀ x13 : Bool, ∀ H14 : Heap, J_2 x13 H14 → F_slices_symMergeCmpFunc_int_k5 data m cap start2 endv J_1 x13 H14)) ∧ (∀ H16 : Heap, J_1 H16 → F_slices_symMergeCmpFunc_int_k9 R data a b cap mid start2 endv H16)))

def F_slices_symMergeCmpFunc_int_k11 (R : Value → Heap → Prop) (data : Sl) (a : Int) (m : Int) (b : Int) (cap : Addr) (mid : Int) (n : Int) (start1 : Int) (r : Int) (H11 : Heap) : Prop :=
  letV (IntKind.i64.wrap (n - (1 : Int))) (fun p : Int =>
  ∃ I_4 : Int → Int → Heap → Prop, ∃ M_4 : Int → Int → Heap → Nat, I_4 start1 r H11 ∧ (∀ start2 : Int, ∀ r1 : Int, ∀ H12 : Heap, I_4 start2 r1 H12 → F_slices_symMergeCmpFunc_int_r10 R data a m b cap mid n p I_4 M_4 start2 r1 H12))

def F_slices_symMergeCmpFunc_int (R : Value → Heap → Prop) (data : Sl) (a : Int) (m : Int) (b : Int) (cap : Addr) (H : Heap) : Prop :=
  iteB ((IntKind.i64.wrap (m - a)) == (1 : Int)) (
  ∃ I_ : Int → Int → Heap → Prop, ∃ M_ : Int → Int → Heap → Nat, I_ m b H ∧ (∀ i : Int, ∀ j : Int, ∀ H1 : Heap, I_ i j H1 → F_slices_symMergeCmpFunc_int_r2 R data a cap I_ M_ i j H1)) (
  iteB ((IntKind.i64.wrap (b - m)) == (1 : Int)) (
  ∃ I_2 : Int → Int → Heap → Prop, ∃ M_2 : Int → Int → Heap → Nat, I_2 a m H ∧ (∀ i2 : Int, ∀ j1 : Int, ∀ H6 : Heap, I_2 i2 j1 H6 → F_slices_symMergeCmpFunc_int_r4 R data m cap I_2 M_2 i2 j1 H6)) (
  0 ≤ (1 : Int) ∧ (
  letV (IntKind.i64.wrap ((IntKind.u64.wrap (IntKind.i64.wrap (a + b))).fdiv (2 ^ (min (1 : Int).toNat IntKind.u64.bits)))) (fun mid : Int =>
  letV (IntKind.i64.wrap (mid + m)) (fun n : Int =>
  ∃ J_ : Int → Int → Heap → Prop, (
  iteB (decide (m > mid)) (
  letV (IntKind.i64.wrap (n - b)) (fun start : Int =>
  J_ start mid H)) (
  J_ a m H)) ∧ (∀ start1 : Int, ∀ r : Int, ∀ H11 : Heap, J_ start1 r H11 → F_slices_symMergeCmpFunc_int_k11 R data a m b cap mid n start1 r H11))))))

theorem F_slices_symMergeCmpFunc_int_eq (R : Value → Heap → Prop) (data : Sl) (a : Int) (m : Int) (b : Int) (cap : Addr) (H : Heap) : wpF Tryz.prog Tryz.f101 [(10, .int .i64 0), (11, .int .i64 0), (13, .int .i64 0), (14, .int .i64 0), (15, .int .i64 0), (17, .int .i64 0), (20, .int .i64 0), (21, .int .i64 0), (185, .bool false), (199, .bool false), (213, .bool false)] [(32, [20, 21], [0, 1, 2, 3, 4, 18, 19]), (41, [], [0, 1, 3, 4, 18, 20, 24]), (40, [185], [0, 1, 2, 3, 4, 18, 20, 24]), (43, [], [0, 3, 4, 18, 24]), (42, [199], [0, 1, 3, 4, 18, 20, 24]), (44, [213], [0, 3, 4, 18, 24])] [(3, [10, 11], [0, 1, 4]), (9, [13], [0, 10]), (15, [14, 15], [0, 2, 4]), (21, [17], [0, 14]), (33, [20, 21], [0, 1, 2, 3, 4, 18, 19, 22])] [20] [.slice data.p data.n data.c, .int .i64 a, .int .i64 m, .int .i64 b, .func (.func 68) #[] #[.pointer (some cap)]] H R = F_slices_symMergeCmpFunc_int R data a m b cap H := by kernel_rfl

theorem F_slices_symMergeCmpFunc_int_ok {R : Value → Heap → Prop} (data : Sl) (a : Int) (m : Int) (b : Int) (cap : Addr) {H : Heap} (h : F_slices_symMergeCmpFunc_int R data a m b cap H) : CallsH Tryz.prog n_slices_symMergeCmpFunc_int #[.slice data.p data.n data.c, .int .i64 a, .int .i64 m, .int .i64 b, .func (.func 68) #[] #[.pointer (some cap)]] H R :=
  wpF_ok Tryz.func101 (F_slices_symMergeCmpFunc_int_eq R data a m b cap H) h

/-! ### 103: math/bits.Len -/

/-! ### 104: cmp.isNaN[uint64] -/

/-! ### 109: slices.rotateCmpFunc[int] -/

def F_slices_rotateCmpFunc_int_r1 (R : Value → Heap → Prop) (data : Sl) (m : Int) (cap : Addr) (I_ : Int → Int → Heap → Prop) (M_ : Int → Int → Heap → Nat) (i1 : Int) (j1 : Int) (H1 : Heap) : Prop :=
  iteB (i1 != j1) (
  iteB (decide (i1 > j1)) (
  CallsH Tryz.prog n_slices_swapRangeCmpFunc_int #[.slice data.p data.n data.c, .int .i64 (IntKind.i64.wrap (m - i1)), .int .i64 m, .int .i64 j1, .func (.func 68) #[] #[.pointer (some cap)]] H1 (fun v H2 =>
  v = .tuple #[] ∧ (
  letV (IntKind.i64.wrap (i1 - j1)) (fun i2 : Int =>
  I_ i2 j1 H2 ∧ M_ i2 j1 H2 < M_ i1 j1 H1)))) (
  CallsH Tryz.prog n_slices_swapRangeCmpFunc_int #[.slice data.p data.n data.c, .int .i64 (IntKind.i64.wrap (m - i1)), .int .i64 (IntKind.i64.wrap ((IntKind.i64.wrap (m + j1)) - i1)), .int .i64 i1, .func (.func 68) #[] #[.pointer (some cap)]] H1 (fun v1 H3 =>
  v1 = .tuple #[] ∧ (
  letV (IntKind.i64.wrap (j1 - i1)) (fun j2 : Int =>
  I_ i1 j2 H3 ∧ M_ i1 j2 H3 < M_ i1 j1 H1))))) (
  CallsH Tryz.prog n_slices_swapRangeCmpFunc_int #[.slice data.p data.n data.c, .int .i64 (IntKind.i64.wrap (m - i1)), .int .i64 m, .int .i64 i1, .func (.func 68) #[] #[.pointer (some cap)]] H1 (fun v2 H4 =>
  v2 = .tuple #[] ∧ (
  R (.tuple #[]) H4)))

def F_slices_rotateCmpFunc_int (R : Value → Heap → Prop) (data : Sl) (a : Int) (m : Int) (b : Int) (cap : Addr) (H : Heap) : Prop :=
  letV (IntKind.i64.wrap (m - a)) (fun i : Int =>
  letV (IntKind.i64.wrap (b - m)) (fun j : Int =>
  ∃ I_ : Int → Int → Heap → Prop, ∃ M_ : Int → Int → Heap → Nat, I_ i j H ∧ (∀ i1 : Int, ∀ j1 : Int, ∀ H1 : Heap, I_ i1 j1 H1 → F_slices_rotateCmpFunc_int_r1 R data m cap I_ M_ i1 j1 H1)))

theorem F_slices_rotateCmpFunc_int_eq (R : Value → Heap → Prop) (data : Sl) (a : Int) (m : Int) (b : Int) (cap : Addr) (H : Heap) : wpF Tryz.prog Tryz.f109 [(10, .int .i64 0), (11, .int .i64 0)] [] [(2, [10, 11], [0, 2, 4])] [20] [.slice data.p data.n data.c, .int .i64 a, .int .i64 m, .int .i64 b, .func (.func 68) #[] #[.pointer (some cap)]] H R = F_slices_rotateCmpFunc_int R data a m b cap H := by kernel_rfl

theorem F_slices_rotateCmpFunc_int_ok {R : Value → Heap → Prop} (data : Sl) (a : Int) (m : Int) (b : Int) (cap : Addr) {H : Heap} (h : F_slices_rotateCmpFunc_int R data a m b cap H) : CallsH Tryz.prog n_slices_rotateCmpFunc_int #[.slice data.p data.n data.c, .int .i64 a, .int .i64 m, .int .i64 b, .func (.func 68) #[] #[.pointer (some cap)]] H R :=
  wpF_ok Tryz.func109 (F_slices_rotateCmpFunc_int_eq R data a m b cap H) h

/-! ### 118: math/bits.Len32 -/

/-! ### 120: slices.swapRangeCmpFunc[int] -/

def F_slices_swapRangeCmpFunc_int_r1 (R : Value → Heap → Prop) (data : Sl) (a : Int) (b : Int) (n : Int) (I_ : Int → Heap → Prop) (M_ : Int → Heap → Nat) (i : Int) (H1 : Heap) : Prop :=
  iteB (decide (i < n)) (
  0 ≤ (IntKind.i64.wrap (b + i)) ∧ (IntKind.i64.wrap (b + i)) < (data.n : Int) ∧ (unSome data.p (fun a1 =>
  ∃ x : Int, rd H1 (a1.add ((IntKind.i64.wrap (b + i)).toNat * 1)) = some (.int .i64 x) ∧ (
  0 ≤ (IntKind.i64.wrap (a + i)) ∧ (IntKind.i64.wrap (a + i)) < (data.n : Int) ∧ (unSome data.p (fun a2 =>
  ∃ x1 : Int, rd H1 (a2.add ((IntKind.i64.wrap (a + i)).toNat * 1)) = some (.int .i64 x1) ∧ (
  0 ≤ (IntKind.i64.wrap (a + i)) ∧ (IntKind.i64.wrap (a + i)) < (data.n : Int) ∧ (unSome data.p (fun a3 =>
  okRow H1 (a3.add ((IntKind.i64.wrap (a + i)).toNat * 1)) 1 ∧ (
  letH (wrs H1 (a3.add ((IntKind.i64.wrap (a + i)).toNat * 1)) [.int .i64 x]) (fun H2 : Heap =>
  0 ≤ (IntKind.i64.wrap (b + i)) ∧ (IntKind.i64.wrap (b + i)) < (data.n : Int) ∧ (unSome data.p (fun a4 =>
  okRow H2 (a4.add ((IntKind.i64.wrap (b + i)).toNat * 1)) 1 ∧ (
  letH (wrs H2 (a4.add ((IntKind.i64.wrap (b + i)).toNat * 1)) [.int .i64 x1]) (fun H3 : Heap =>
  letV (IntKind.i64.wrap (i + (1 : Int))) (fun i1 : Int =>
  I_ i1 H3 ∧ M_ i1 H3 < M_ i H1)))))))))))))))) (
  R (.tuple #[]) H1)

def F_slices_swapRangeCmpFunc_int (R : Value → Heap → Prop) (data : Sl) (a : Int) (b : Int) (n : Int) (cap : Addr) (H : Heap) : Prop :=
  ∃ I_ : Int → Heap → Prop, ∃ M_ : Int → Heap → Nat, I_ (0 : Int) H ∧ (∀ i : Int, ∀ H1 : Heap, I_ i H1 → F_slices_swapRangeCmpFunc_int_r1 R data a b n I_ M_ i H1)

theorem F_slices_swapRangeCmpFunc_int_eq (R : Value → Heap → Prop) (data : Sl) (a : Int) (b : Int) (n : Int) (cap : Addr) (H : Heap) : wpF Tryz.prog Tryz.f120 [(10, .int .i64 0)] [] [(1, [10], [0, 1, 2, 3])] [20] [.slice data.p data.n data.c, .int .i64 a, .int .i64 b, .int .i64 n, .func (.func 68) #[] #[.pointer (some cap)]] H R = F_slices_swapRangeCmpFunc_int R data a b n cap H := by kernel_rfl

theorem F_slices_swapRangeCmpFunc_int_ok {R : Value → Heap → Prop} (data : Sl) (a : Int) (b : Int) (n : Int) (cap : Addr) {H : Heap} (h : F_slices_swapRangeCmpFunc_int R data a b n cap H) : CallsH Tryz.prog n_slices_swapRangeCmpFunc_int #[.slice data.p data.n data.c, .int .i64 a, .int .i64 b, .int .i64 n, .func (.func 68) #[] #[.pointer (some cap)]] H R :=
  wpF_ok Tryz.func120 (F_slices_swapRangeCmpFunc_int_eq R data a b n cap H) h

end Go.Proofs.YtigcheamheiopaaGreat
