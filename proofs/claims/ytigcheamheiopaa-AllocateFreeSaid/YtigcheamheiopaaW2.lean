/-
  The shallow readings of this seat's functions, written by a program (gen.py); the kernel holds each against the loaded program.
-/
import Derived.Test.YtigcheamheiopaaProg
import Derived.Test.YtigcheamheiopaaW1
namespace Go.Proofs.Ytigcheamheiopaa
open Go.Eng
set_option linter.unusedVariables false

/-! ### 29: platformfw/platformfwref18.NeedsBelow -/

def F_ref18_NeedsBelow_k1 (needs : Sl) (I_ : Sl → Int → Heap → Prop) (M_ : Sl → Int → Heap → Nat) (out : Sl) (k : Int) (H2 : Heap) (x3 : Bool) (H3 : Heap) : Prop :=
  iteB x3 (
  0 ≤ k ∧ k < (needs.n : Int) ∧ (unSome needs.p (fun a4 =>
  ∃ x4 : Int, rd H3 (a4.add (k.toNat * 4)) = some (.int .i64 x4) ∧ ∃ x5 : Int, rd H3 ((a4.add (k.toNat * 4)).add 1) = some (.int .i64 x5) ∧ ∃ x6 : Int, rd H3 ((a4.add (k.toNat * 4)).add 2) = some (.int .i64 x6) ∧ ∃ x7 : Int, rd H3 ((a4.add (k.toNat * 4)).add 3) = some (.int .i64 x7) ∧ (
  letH (H3.push (.cells #[.int .i64 x4, .int .i64 x5, .int .i64 x6, .int .i64 x7] t_api_Need (0, 0))) (fun H4 : Heap =>
  runH Try.prog (Builtin.append_ #[t_sl_api_Need, t_sl_api_Need] t_sl_api_Need #[.slice out.p out.n out.c, .slice (some (⟨H3.size, 0, none⟩ : Addr)) 1 1]) H4 (fun v H5 =>
  ∃ out1 : Sl, v = .slice out1.p out1.n out1.c ∧ (
  letV (IntKind.i64.wrap (k + (1 : Int))) (fun k1 : Int =>
  I_ out1 k1 H5 ∧ M_ out1 k1 H5 < M_ out k H2)))))))) (
  letV (IntKind.i64.wrap (k + (1 : Int))) (fun k2 : Int =>
  I_ out k2 H3 ∧ M_ out k2 H3 < M_ out k H2))

def F_ref18_NeedsBelow_r2 (R : Value → Heap → Prop) (l : Sl) (needs : Sl) (parent : Int) (classv : Int) (I_ : Sl → Int → Heap → Prop) (M_ : Sl → Int → Heap → Nat) (out : Sl) (k : Int) (H2 : Heap) : Prop :=
  iteB (decide (k < (needs.n : Int))) (
  0 ≤ k ∧ k < (needs.n : Int) ∧ (unSome needs.p (fun a1 =>
  ∃ f : Int, rd H2 (a1.add (k.toNat * 4)) = some (.int .i64 f) ∧ (
  ∃ J_1 : Bool → Heap → Prop, (
  0 ≤ k ∧ k < (needs.n : Int) ∧ (unSome needs.p (fun a2 =>
  ∃ x1 : Int, rd H2 ((a2.add (k.toNat * 4)).add 2) = some (.int .i64 x1) ∧ (
  iteB (x1 == classv) (
  iteB (decide (f ≥ (0 : Int))) (
  iteB (decide (f < (l.n : Int))) (
  0 ≤ f ∧ f < (l.n : Int) ∧ (unSome l.p (fun a3 =>
  ∃ x2 : Int, rd H2 (a3.add (f.toNat * 11)) = some (.int .i64 x2) ∧ (
  J_1 (x2 == parent) H2)))) (
  J_1 false H2)) (
  J_1 false H2)) (
  J_1 false H2))))) ∧ (∀ x3 : Bool, ∀ H3 : Heap, J_1 x3 H3 → F_ref18_NeedsBelow_k1 needs I_ M_ out k H2 x3 H3))))) (
  R (.slice out.p out.n out.c) H2)

def F_ref18_NeedsBelow_k3 (R : Value → Heap → Prop) (l : Sl) (needs : Sl) (parent : Int) (classv : Int) (H1 : Heap) : Prop :=
  ∃ I_ : Sl → Int → Heap → Prop, ∃ M_ : Sl → Int → Heap → Nat, I_ (Sl.mk none 0 0) (0 : Int) H1 ∧ (∀ out : Sl, ∀ k : Int, ∀ H2 : Heap, I_ out k H2 → F_ref18_NeedsBelow_r2 R l needs parent classv I_ M_ out k H2)

def F_ref18_NeedsBelow (R : Value → Heap → Prop) (l : Sl) (needs : Sl) (parent : Int) (classv : Int) (H : Heap) : Prop :=
  ∃ J_ : Heap → Prop, (
  iteB (decide (parent < (-1 : Int))) (
  R (.slice none 0 0) H) (
  iteB (decide (parent ≥ (l.n : Int))) (
  R (.slice none 0 0) H) (
  iteB (decide (parent ≥ (0 : Int))) (
  0 ≤ parent ∧ parent < (l.n : Int) ∧ (unSome l.p (fun a =>
  ∃ x : Bool, rd H ((a.add (parent.toNat * 11)).add 4) = some (.bool x) ∧ (
  iteB (!x) (
  R (.slice none 0 0) H) (
  J_ H))))) (
  J_ H)))) ∧ (∀ H1 : Heap, J_ H1 → F_ref18_NeedsBelow_k3 R l needs parent classv H1)

theorem F_ref18_NeedsBelow_eq (R : Value → Heap → Prop) (l : Sl) (needs : Sl) (parent : Int) (classv : Int) (H : Heap) : wpF Try.prog Try.f29 [(9, .slice none 0 0), (10, .int .i64 0), (68, .bool false)] [(4, [], [0, 1, 2, 3, 9]), (9, [68], [0, 1, 2, 3, 9, 10])] [(5, [9, 10], [0, 1, 2, 3])] [17] [.slice l.p l.n l.c, .slice needs.p needs.n needs.c, .int .i64 parent, .int .i64 classv] H R = F_ref18_NeedsBelow R l needs parent classv H := by kernel_rfl

theorem F_ref18_NeedsBelow_ok {R : Value → Heap → Prop} (l : Sl) (needs : Sl) (parent : Int) (classv : Int) {H : Heap} (h : F_ref18_NeedsBelow R l needs parent classv H) : CallsH Try.prog n_ref18_NeedsBelow #[.slice l.p l.n l.c, .slice needs.p needs.n needs.c, .int .i64 parent, .int .i64 classv] H R :=
  wpF_ok Try.func29 (F_ref18_NeedsBelow_eq R l needs parent classv H) h

/-! ### 30: platformfw/platformfwref21.Space -/

def F_ref21_Space (R : Value → Heap → Prop) (h_0 : Int) (h_1 : Sl) (h_2 : Sl) (h_3 : Sl) (h_4 : Sl) (h_5 : Sl) (h_6 : Sl) (h_7 : Sl) (classv : Int) (H : Heap) : Prop :=
  letH (H.push (.cells #[.int .i64 h_0, .slice h_1.p h_1.n h_1.c, .slice h_2.p h_2.n h_2.c, .slice h_3.p h_3.n h_3.c, .slice h_4.p h_4.n h_4.c, .slice h_5.p h_5.n h_5.c, .slice h_6.p h_6.n h_6.c, .slice h_7.p h_7.n h_7.c] t_api_Host (0, 0))) (fun H1 : Heap =>
  iteB (classv == (0 : Int)) (
  ∃ x : Sl, rd H1 ((⟨H.size, 0, none⟩ : Addr).add 1) = some (.slice x.p x.n x.c) ∧ (
  ∃ x1 : Sl, rd H1 ((⟨H.size, 0, none⟩ : Addr).add 4) = some (.slice x1.p x1.n x1.c) ∧ (
  CallsH Try.prog n_ref21_Free #[.slice x.p x.n x.c, .slice x1.p x1.n x1.c] H1 (fun v H2 =>
  ∃ x2 : Sl, v = .slice x2.p x2.n x2.c ∧ (
  R (.slice x2.p x2.n x2.c) H2))))) (
  iteB (classv == (1 : Int)) (
  ∃ x3 : Sl, rd H1 ((⟨H.size, 0, none⟩ : Addr).add 2) = some (.slice x3.p x3.n x3.c) ∧ (
  ∃ x4 : Sl, rd H1 ((⟨H.size, 0, none⟩ : Addr).add 5) = some (.slice x4.p x4.n x4.c) ∧ (
  CallsH Try.prog n_ref21_Free #[.slice x3.p x3.n x3.c, .slice x4.p x4.n x4.c] H1 (fun v1 H3 =>
  ∃ x5 : Sl, v1 = .slice x5.p x5.n x5.c ∧ (
  R (.slice x5.p x5.n x5.c) H3))))) (
  ∃ x6 : Sl, rd H1 ((⟨H.size, 0, none⟩ : Addr).add 3) = some (.slice x6.p x6.n x6.c) ∧ (
  ∃ x7 : Sl, rd H1 ((⟨H.size, 0, none⟩ : Addr).add 5) = some (.slice x7.p x7.n x7.c) ∧ (
  CallsH Try.prog n_ref21_Free #[.slice x6.p x6.n x6.c, .slice x7.p x7.n x7.c] H1 (fun v2 H4 =>
  ∃ x8 : Sl, v2 = .slice x8.p x8.n x8.c ∧ (
  R (.slice x8.p x8.n x8.c) H4)))))))

theorem F_ref21_Space_eq (R : Value → Heap → Prop) (h_0 : Int) (h_1 : Sl) (h_2 : Sl) (h_3 : Sl) (h_4 : Sl) (h_5 : Sl) (h_6 : Sl) (h_7 : Sl) (classv : Int) (H : Heap) : wpF Try.prog Try.f30 [] [] [] [17] [.agg #[.int .i64 h_0, .slice h_1.p h_1.n h_1.c, .slice h_2.p h_2.n h_2.c, .slice h_3.p h_3.n h_3.c, .slice h_4.p h_4.n h_4.c, .slice h_5.p h_5.n h_5.c, .slice h_6.p h_6.n h_6.c, .slice h_7.p h_7.n h_7.c], .int .i64 classv] H R = F_ref21_Space R h_0 h_1 h_2 h_3 h_4 h_5 h_6 h_7 classv H := by kernel_rfl

theorem F_ref21_Space_ok {R : Value → Heap → Prop} (h_0 : Int) (h_1 : Sl) (h_2 : Sl) (h_3 : Sl) (h_4 : Sl) (h_5 : Sl) (h_6 : Sl) (h_7 : Sl) (classv : Int) {H : Heap} (h : F_ref21_Space R h_0 h_1 h_2 h_3 h_4 h_5 h_6 h_7 classv H) : CallsH Try.prog n_ref21_Space #[.agg #[.int .i64 h_0, .slice h_1.p h_1.n h_1.c, .slice h_2.p h_2.n h_2.c, .slice h_3.p h_3.n h_3.c, .slice h_4.p h_4.n h_4.c, .slice h_5.p h_5.n h_5.c, .slice h_6.p h_6.n h_6.c, .slice h_7.p h_7.n h_7.c], .int .i64 classv] H R :=
  wpF_ok Try.func30 (F_ref21_Space_eq R h_0 h_1 h_2 h_3 h_4 h_5 h_6 h_7 classv H) h

/-! ### 31: platformfw/allocate.Check -/

def F_allocate_Check_r1 (R : Value → Heap → Prop) (l : Sl) (a : Sl) (I_1 : Int → Heap → Prop) (M_1 : Int → Heap → Nat) (x22 : Int) (H9 : Heap) (parent : Int) (classv : Int) (I_2 : Int → Heap → Prop) (M_2 : Int → Heap → Nat) (x36 : Int) (H16 : Heap) : Prop :=
  iteB (decide (x36 < (((x22.toNat - 0) : Nat) : Int))) (
  0 ≤ x36 ∧ x36 < (((x22.toNat - 0) : Nat) : Int) ∧ (unSome (slP a.p a.c 0 5) (fun a3 =>
  ∃ x37 : Int, rd H16 (a3.add (x36.toNat * 5)) = some (.int .i64 x37) ∧ ∃ x38 : Int, rd H16 ((a3.add (x36.toNat * 5)).add 1) = some (.int .i64 x38) ∧ ∃ x39 : Int, rd H16 ((a3.add (x36.toNat * 5)).add 2) = some (.int .i64 x39) ∧ ∃ x40 : Int, rd H16 ((a3.add (x36.toNat * 5)).add 3) = some (.int .i64 x40) ∧ ∃ x41 : Int, rd H16 ((a3.add (x36.toNat * 5)).add 4) = some (.int .u64 x41) ∧ (
  letH (H16.push (.cells #[.int .i64 (0 : Int), .int .i64 (0 : Int), .int .i64 (0 : Int), .int .i64 (0 : Int), .int .u64 (0 : Int)] t_api_Assignment (0, 0))) (fun H17 : Heap =>
  okRow H17 (⟨H16.size, 0, none⟩ : Addr) 5 ∧ (
  letH (wrs H17 (⟨H16.size, 0, none⟩ : Addr) [.int .i64 x37, .int .i64 x38, .int .i64 x39, .int .i64 x40, .int .u64 x41]) (fun H18 : Heap =>
  ∃ x42 : Int, rd H18 (⟨H16.size, 0, none⟩ : Addr) = some (.int .i64 x42) ∧ (
  0 ≤ x42 ∧ x42 < (l.n : Int) ∧ (unSome l.p (fun a4 =>
  ∃ x43 : Int, rd H18 (a4.add (x42.toNat * 11)) = some (.int .i64 x43) ∧ (
  iteB (x43 == parent) (
  ∃ x44 : Int, rd H18 ((⟨H16.size, 0, none⟩ : Addr).add 2) = some (.int .i64 x44) ∧ (
  iteB (x44 == classv) (
  ∃ x45 : Int, rd H18 (⟨H9.size, 0, none⟩ : Addr) = some (.int .i64 x45) ∧ ∃ x46 : Int, rd H18 ((⟨H9.size, 0, none⟩ : Addr).add 1) = some (.int .i64 x46) ∧ ∃ x47 : Int, rd H18 ((⟨H9.size, 0, none⟩ : Addr).add 2) = some (.int .i64 x47) ∧ ∃ x48 : Int, rd H18 ((⟨H9.size, 0, none⟩ : Addr).add 3) = some (.int .i64 x48) ∧ ∃ x49 : Int, rd H18 ((⟨H9.size, 0, none⟩ : Addr).add 4) = some (.int .u64 x49) ∧ (
  ∃ x50 : Int, rd H18 (⟨H16.size, 0, none⟩ : Addr) = some (.int .i64 x50) ∧ ∃ x51 : Int, rd H18 ((⟨H16.size, 0, none⟩ : Addr).add 1) = some (.int .i64 x51) ∧ ∃ x52 : Int, rd H18 ((⟨H16.size, 0, none⟩ : Addr).add 2) = some (.int .i64 x52) ∧ ∃ x53 : Int, rd H18 ((⟨H16.size, 0, none⟩ : Addr).add 3) = some (.int .i64 x53) ∧ ∃ x54 : Int, rd H18 ((⟨H16.size, 0, none⟩ : Addr).add 4) = some (.int .u64 x54) ∧ (
  CallsH Try.prog n_allocate_overlap #[.agg #[.int .i64 x45, .int .i64 x46, .int .i64 x47, .int .i64 x48, .int .u64 x49], .agg #[.int .i64 x50, .int .i64 x51, .int .i64 x52, .int .i64 x53, .int .u64 x54]] H18 (fun v6 H19 =>
  ∃ x55 : Bool, v6 = .bool x55 ∧ (
  iteB x55 (
  R (.bool false) H19) (
  I_2 (IntKind.i64.wrap (x36 + (1 : Int))) H19 ∧ M_2 (IntKind.i64.wrap (x36 + (1 : Int))) H19 < M_2 x36 H16)))))) (
  I_2 (IntKind.i64.wrap (x36 + (1 : Int))) H18 ∧ M_2 (IntKind.i64.wrap (x36 + (1 : Int))) H18 < M_2 x36 H16))) (
  I_2 (IntKind.i64.wrap (x36 + (1 : Int))) H18 ∧ M_2 (IntKind.i64.wrap (x36 + (1 : Int))) H18 < M_2 x36 H16)))))))))))) (
  I_1 (IntKind.i64.wrap (x22 + (1 : Int))) H16 ∧ M_1 (IntKind.i64.wrap (x22 + (1 : Int))) H16 < M_1 x22 H9)

def F_allocate_Check_k2 (R : Value → Heap → Prop) (l : Sl) (a : Sl) (I_1 : Int → Heap → Prop) (M_1 : Int → Heap → Nat) (x22 : Int) (H9 : Heap) (size : Int) (parent : Int) (classv : Int) (space1 : Sl) (H14 : Heap) : Prop :=
  ∃ x34 : Int, rd H14 ((⟨H9.size, 0, none⟩ : Addr).add 4) = some (.int .u64 x34) ∧ (
  CallsH Try.prog n_allocate_inside #[.slice space1.p space1.n space1.c, .int .u64 x34, .int .u64 size] H14 (fun v5 H15 =>
  ∃ x35 : Bool, v5 = .bool x35 ∧ (
  iteB (!x35) (
  R (.bool false) H15) (
  0 ≤ x22 ∧ x22 ≤ (a.c : Int) ∧ (
  ∃ I_2 : Int → Heap → Prop, ∃ M_2 : Int → Heap → Nat, I_2 (0 : Int) H15 ∧ (∀ x36 : Int, ∀ H16 : Heap, I_2 x36 H16 → F_allocate_Check_r1 R l a I_1 M_1 x22 H9 parent classv I_2 M_2 x36 H16))))))

def F_allocate_Check_r3 (R : Value → Heap → Prop) (l : Sl) (a : Sl) (H4 : Heap) (I_1 : Int → Heap → Prop) (M_1 : Int → Heap → Nat) (x22 : Int) (H9 : Heap) : Prop :=
  iteB (decide (x22 < (a.n : Int))) (
  0 ≤ x22 ∧ x22 < (a.n : Int) ∧ (unSome a.p (fun a1 =>
  ∃ x23 : Int, rd H9 (a1.add (x22.toNat * 5)) = some (.int .i64 x23) ∧ ∃ x24 : Int, rd H9 ((a1.add (x22.toNat * 5)).add 1) = some (.int .i64 x24) ∧ ∃ x25 : Int, rd H9 ((a1.add (x22.toNat * 5)).add 2) = some (.int .i64 x25) ∧ ∃ x26 : Int, rd H9 ((a1.add (x22.toNat * 5)).add 3) = some (.int .i64 x26) ∧ ∃ x27 : Int, rd H9 ((a1.add (x22.toNat * 5)).add 4) = some (.int .u64 x27) ∧ (
  letH (H9.push (.cells #[.int .i64 (0 : Int), .int .i64 (0 : Int), .int .i64 (0 : Int), .int .i64 (0 : Int), .int .u64 (0 : Int)] t_api_Assignment (0, 0))) (fun H10 : Heap =>
  okRow H10 (⟨H9.size, 0, none⟩ : Addr) 5 ∧ (
  letH (wrs H10 (⟨H9.size, 0, none⟩ : Addr) [.int .i64 x23, .int .i64 x24, .int .i64 x25, .int .i64 x26, .int .u64 x27]) (fun H11 : Heap =>
  ∃ x28 : Int, rd H11 ((⟨H9.size, 0, none⟩ : Addr).add 3) = some (.int .i64 x28) ∧ (
  0 ≤ x28 ∧ (
  letV (IntKind.u64.wrap ((1 : Int) * 2 ^ (min x28.toNat IntKind.u64.bits))) (fun size : Int =>
  ∃ x29 : Int, rd H11 ((⟨H9.size, 0, none⟩ : Addr).add 4) = some (.int .u64 x29) ∧ (
  size ≠ 0 ∧ (
  iteB ((x29.tmod size) != (0 : Int)) (
  R (.bool false) H11) (
  ∃ x30 : Int, rd H11 (⟨H9.size, 0, none⟩ : Addr) = some (.int .i64 x30) ∧ (
  0 ≤ x30 ∧ x30 < (l.n : Int) ∧ (unSome l.p (fun a2 =>
  ∃ parent : Int, rd H11 (a2.add (x30.toNat * 11)) = some (.int .i64 parent) ∧ (
  ∃ classv : Int, rd H11 ((⟨H9.size, 0, none⟩ : Addr).add 2) = some (.int .i64 classv) ∧ (
  0 ≤ classv ∧ classv < ((3 : Nat) : Int) ∧ (∃ space : Sl, rd H11 ((⟨H4.size, 0, none⟩ : Addr).add (classv.toNat * 1)) = some (.slice space.p space.n space.c) ∧ (
  ∃ J_ : Sl → Heap → Prop, (
  iteB (decide (parent ≥ (0 : Int))) (
  CallsH Try.prog n_allocate_window #[.slice a.p a.n a.c, .int .i64 parent, .int .i64 classv] H11 (fun v4 H12 =>
  ∃ x31 : Int, ∃ x32 : Int, ∃ x33 : Bool, v4 = .tuple #[.int .u64 x31, .int .u64 x32, .bool x33] ∧ (
  iteB (!x33) (
  R (.bool false) H12) (
  letH (H12.push (.cells #[.int .u64 x31, .int .u64 x32] t_api_Range (0, 0))) (fun H13 : Heap =>
  J_ (Sl.mk (some (⟨H12.size, 0, none⟩ : Addr)) 1 1) H13))))) (
  J_ space H11)) ∧ (∀ space1 : Sl, ∀ H14 : Heap, J_ space1 H14 → F_allocate_Check_k2 R l a I_1 M_1 x22 H9 size parent classv space1 H14))))))))))))))))))))) (
  R (.bool true) H9)

def F_allocate_Check_r4 (R : Value → Heap → Prop) (H : Heap) (l : Sl) (a : Sl) (H4 : Heap) (I_ : Int → Heap → Prop) (M_ : Int → Heap → Nat) (x12 : Int) (H6 : Heap) : Prop :=
  iteB (decide (x12 < (3 : Int))) (
  ∃ x13 : Int, rd H6 (⟨H.size, 0, none⟩ : Addr) = some (.int .i64 x13) ∧ ∃ x14 : Sl, rd H6 ((⟨H.size, 0, none⟩ : Addr).add 1) = some (.slice x14.p x14.n x14.c) ∧ ∃ x15 : Sl, rd H6 ((⟨H.size, 0, none⟩ : Addr).add 2) = some (.slice x15.p x15.n x15.c) ∧ ∃ x16 : Sl, rd H6 ((⟨H.size, 0, none⟩ : Addr).add 3) = some (.slice x16.p x16.n x16.c) ∧ ∃ x17 : Sl, rd H6 ((⟨H.size, 0, none⟩ : Addr).add 4) = some (.slice x17.p x17.n x17.c) ∧ ∃ x18 : Sl, rd H6 ((⟨H.size, 0, none⟩ : Addr).add 5) = some (.slice x18.p x18.n x18.c) ∧ ∃ x19 : Sl, rd H6 ((⟨H.size, 0, none⟩ : Addr).add 6) = some (.slice x19.p x19.n x19.c) ∧ ∃ x20 : Sl, rd H6 ((⟨H.size, 0, none⟩ : Addr).add 7) = some (.slice x20.p x20.n x20.c) ∧ (
  CallsH Try.prog n_allocate_hostFree #[.agg #[.int .i64 x13, .slice x14.p x14.n x14.c, .slice x15.p x15.n x15.c, .slice x16.p x16.n x16.c, .slice x17.p x17.n x17.c, .slice x18.p x18.n x18.c, .slice x19.p x19.n x19.c, .slice x20.p x20.n x20.c], .int .i64 x12] H6 (fun v3 H7 =>
  ∃ x21 : Sl, v3 = .slice x21.p x21.n x21.c ∧ (
  0 ≤ x12 ∧ x12 < ((3 : Nat) : Int) ∧ (okRow H7 ((⟨H4.size, 0, none⟩ : Addr).add (x12.toNat * 1)) 1 ∧ (
  letH (wrs H7 ((⟨H4.size, 0, none⟩ : Addr).add (x12.toNat * 1)) [.slice x21.p x21.n x21.c]) (fun H8 : Heap =>
  I_ (IntKind.i64.wrap (x12 + (1 : Int))) H8 ∧ M_ (IntKind.i64.wrap (x12 + (1 : Int))) H8 < M_ x12 H6))))))) (
  ∃ I_1 : Int → Heap → Prop, ∃ M_1 : Int → Heap → Nat, I_1 (0 : Int) H6 ∧ (∀ x22 : Int, ∀ H9 : Heap, I_1 x22 H9 → F_allocate_Check_r3 R l a H4 I_1 M_1 x22 H9))

def F_allocate_Check (R : Value → Heap → Prop) (l : Sl) (h_0 : Int) (h_1 : Sl) (h_2 : Sl) (h_3 : Sl) (h_4 : Sl) (h_5 : Sl) (h_6 : Sl) (h_7 : Sl) (a : Sl) (H : Heap) : Prop :=
  letH (H.push (.cells #[.int .i64 h_0, .slice h_1.p h_1.n h_1.c, .slice h_2.p h_2.n h_2.c, .slice h_3.p h_3.n h_3.c, .slice h_4.p h_4.n h_4.c, .slice h_5.p h_5.n h_5.c, .slice h_6.p h_6.n h_6.c, .slice h_7.p h_7.n h_7.c] t_api_Host (0, 0))) (fun H1 : Heap =>
  CallsH Try.prog n_enumerate_Valid #[.slice l.p l.n l.c] H1 (fun v H2 =>
  ∃ x : Bool, v = .bool x ∧ (
  iteB (!x) (
  R (.bool false) H2) (
  ∃ x1 : Int, rd H2 (⟨H.size, 0, none⟩ : Addr) = some (.int .i64 x1) ∧ ∃ x2 : Sl, rd H2 ((⟨H.size, 0, none⟩ : Addr).add 1) = some (.slice x2.p x2.n x2.c) ∧ ∃ x3 : Sl, rd H2 ((⟨H.size, 0, none⟩ : Addr).add 2) = some (.slice x3.p x3.n x3.c) ∧ ∃ x4 : Sl, rd H2 ((⟨H.size, 0, none⟩ : Addr).add 3) = some (.slice x4.p x4.n x4.c) ∧ ∃ x5 : Sl, rd H2 ((⟨H.size, 0, none⟩ : Addr).add 4) = some (.slice x5.p x5.n x5.c) ∧ ∃ x6 : Sl, rd H2 ((⟨H.size, 0, none⟩ : Addr).add 5) = some (.slice x6.p x6.n x6.c) ∧ ∃ x7 : Sl, rd H2 ((⟨H.size, 0, none⟩ : Addr).add 6) = some (.slice x7.p x7.n x7.c) ∧ ∃ x8 : Sl, rd H2 ((⟨H.size, 0, none⟩ : Addr).add 7) = some (.slice x8.p x8.n x8.c) ∧ (
  CallsH Try.prog n_allocate_ValidHost #[.agg #[.int .i64 x1, .slice x2.p x2.n x2.c, .slice x3.p x3.n x3.c, .slice x4.p x4.n x4.c, .slice x5.p x5.n x5.c, .slice x6.p x6.n x6.c, .slice x7.p x7.n x7.c, .slice x8.p x8.n x8.c]] H2 (fun v1 H3 =>
  ∃ x9 : Bool, v1 = .bool x9 ∧ (
  iteB (!x9) (
  R (.bool false) H3) (
  ∃ x10 : Sl, rd H3 ((⟨H.size, 0, none⟩ : Addr).add 3) = some (.slice x10.p x10.n x10.c) ∧ (
  CallsH Try.prog n_allocate_covers #[.slice l.p l.n l.c, .bool (decide ((x10.n : Int) > (0 : Int))), .slice a.p a.n a.c] H3 (fun v2 H4 =>
  ∃ x11 : Bool, v2 = .bool x11 ∧ (
  iteB (!x11) (
  R (.bool false) H4) (
  letH (H4.push (.cells #[.slice none 0 0, .slice none 0 0, .slice none 0 0] t_3_sl_api_Range (0, 0))) (fun H5 : Heap =>
  ∃ I_ : Int → Heap → Prop, ∃ M_ : Int → Heap → Nat, I_ (0 : Int) H5 ∧ (∀ x12 : Int, ∀ H6 : Heap, I_ x12 H6 → F_allocate_Check_r4 R H l a H4 I_ M_ x12 H6))))))))))))))

theorem F_allocate_Check_eq (R : Value → Heap → Prop) (l : Sl) (h_0 : Int) (h_1 : Sl) (h_2 : Sl) (h_3 : Sl) (h_4 : Sl) (h_5 : Sl) (h_6 : Sl) (h_7 : Sl) (a : Sl) (H : Heap) : wpF Try.prog Try.f31 [(14, .slice none 0 0), (38, .int .i64 0), (49, .int .i64 0), (102, .int .i64 0)] [(22, [14], [0, 2, 7, 9, 10, 11, 12, 13, 47, 48, 49])] [(5, [38], [0, 2, 4, 7]), (10, [49], [0, 2, 7, 47, 48]), (25, [102], [0, 2, 7, 10, 12, 13, 47, 48, 49, 100, 101])] [17] [.slice l.p l.n l.c, .agg #[.int .i64 h_0, .slice h_1.p h_1.n h_1.c, .slice h_2.p h_2.n h_2.c, .slice h_3.p h_3.n h_3.c, .slice h_4.p h_4.n h_4.c, .slice h_5.p h_5.n h_5.c, .slice h_6.p h_6.n h_6.c, .slice h_7.p h_7.n h_7.c], .slice a.p a.n a.c] H R = F_allocate_Check R l h_0 h_1 h_2 h_3 h_4 h_5 h_6 h_7 a H := by kernel_rfl

theorem F_allocate_Check_ok {R : Value → Heap → Prop} (l : Sl) (h_0 : Int) (h_1 : Sl) (h_2 : Sl) (h_3 : Sl) (h_4 : Sl) (h_5 : Sl) (h_6 : Sl) (h_7 : Sl) (a : Sl) {H : Heap} (h : F_allocate_Check R l h_0 h_1 h_2 h_3 h_4 h_5 h_6 h_7 a H) : CallsH Try.prog n_allocate_Check #[.slice l.p l.n l.c, .agg #[.int .i64 h_0, .slice h_1.p h_1.n h_1.c, .slice h_2.p h_2.n h_2.c, .slice h_3.p h_3.n h_3.c, .slice h_4.p h_4.n h_4.c, .slice h_5.p h_5.n h_5.c, .slice h_6.p h_6.n h_6.c, .slice h_7.p h_7.n h_7.c], .slice a.p a.n a.c] H R :=
  wpF_ok Try.func31 (F_allocate_Check_eq R l h_0 h_1 h_2 h_3 h_4 h_5 h_6 h_7 a H) h

/-! ### 32: platformfw/platformfwref21.Check -/

def F_ref21_Check_r1 (R : Value → Heap → Prop) (l : Sl) (a : Sl) (I_1 : Int → Heap → Prop) (M_1 : Int → Heap → Nat) (i2 : Int) (H6 : Heap) (parent : Int) (I_2 : Int → Heap → Prop) (M_2 : Int → Heap → Nat) (k : Int) (H16 : Heap) : Prop :=
  iteB (decide (k < i2)) (
  0 ≤ k ∧ k < (a.n : Int) ∧ (unSome a.p (fun a6 =>
  ∃ x55 : Int, rd H16 ((a6.add (k.toNat * 5)).add 2) = some (.int .i64 x55) ∧ (
  ∃ x56 : Int, rd H16 ((⟨H6.size, 0, none⟩ : Addr).add 2) = some (.int .i64 x56) ∧ (
  iteB (x55 == x56) (
  0 ≤ k ∧ k < (a.n : Int) ∧ (unSome a.p (fun a7 =>
  ∃ x57 : Int, rd H16 (a7.add (k.toNat * 5)) = some (.int .i64 x57) ∧ (
  0 ≤ x57 ∧ x57 < (l.n : Int) ∧ (unSome l.p (fun a8 =>
  ∃ x58 : Int, rd H16 (a8.add (x57.toNat * 11)) = some (.int .i64 x58) ∧ (
  iteB (x58 == parent) (
  0 ≤ k ∧ k < (a.n : Int) ∧ (unSome a.p (fun a9 =>
  ∃ x59 : Int, rd H16 ((a9.add (k.toNat * 5)).add 4) = some (.int .u64 x59) ∧ (
  ∃ x60 : Int, rd H16 ((⟨H6.size, 0, none⟩ : Addr).add 4) = some (.int .u64 x60) ∧ (
  ∃ x61 : Int, rd H16 (⟨H6.size, 0, none⟩ : Addr) = some (.int .i64 x61) ∧ ∃ x62 : Int, rd H16 ((⟨H6.size, 0, none⟩ : Addr).add 1) = some (.int .i64 x62) ∧ ∃ x63 : Int, rd H16 ((⟨H6.size, 0, none⟩ : Addr).add 2) = some (.int .i64 x63) ∧ ∃ x64 : Int, rd H16 ((⟨H6.size, 0, none⟩ : Addr).add 3) = some (.int .i64 x64) ∧ ∃ x65 : Int, rd H16 ((⟨H6.size, 0, none⟩ : Addr).add 4) = some (.int .u64 x65) ∧ (
  CallsH Try.prog n_ref21_span #[.agg #[.int .i64 x61, .int .i64 x62, .int .i64 x63, .int .i64 x64, .int .u64 x65]] H16 (fun v8 H17 =>
  ∃ x66 : Int, ∃ x67 : Int, v8 = .agg #[.int .u64 x66, .int .u64 x67] ∧ (
  Keeps H16 H17 [(((a9.add (k.toNat * 5)).add 4), 1), (((⟨H6.size, 0, none⟩ : Addr).add 4), 1)] ∧ (
  iteB (decide (x59 < (IntKind.u64.wrap (x60 + x67)))) (
  ∃ x68 : Int, rd H17 ((⟨H6.size, 0, none⟩ : Addr).add 4) = some (.int .u64 x68) ∧ (
  0 ≤ k ∧ k < (a.n : Int) ∧ (unSome a.p (fun a10 =>
  ∃ x69 : Int, rd H17 ((a10.add (k.toNat * 5)).add 4) = some (.int .u64 x69) ∧ (
  0 ≤ k ∧ k < (a.n : Int) ∧ (unSome a.p (fun a11 =>
  ∃ x70 : Int, rd H17 (a11.add (k.toNat * 5)) = some (.int .i64 x70) ∧ ∃ x71 : Int, rd H17 ((a11.add (k.toNat * 5)).add 1) = some (.int .i64 x71) ∧ ∃ x72 : Int, rd H17 ((a11.add (k.toNat * 5)).add 2) = some (.int .i64 x72) ∧ ∃ x73 : Int, rd H17 ((a11.add (k.toNat * 5)).add 3) = some (.int .i64 x73) ∧ ∃ x74 : Int, rd H17 ((a11.add (k.toNat * 5)).add 4) = some (.int .u64 x74) ∧ (
  CallsH Try.prog n_ref21_span #[.agg #[.int .i64 x70, .int .i64 x71, .int .i64 x72, .int .i64 x73, .int .u64 x74]] H17 (fun v9 H18 =>
  ∃ x75 : Int, ∃ x76 : Int, v9 = .agg #[.int .u64 x75, .int .u64 x76] ∧ (
  Keeps H17 H18 [(((⟨H6.size, 0, none⟩ : Addr).add 4), 1), (((a10.add (k.toNat * 5)).add 4), 1)] ∧ (
  iteB (decide (x68 < (IntKind.u64.wrap (x69 + x76)))) (
  R (.bool false) H18) (
  letV (IntKind.i64.wrap (k + (1 : Int))) (fun k1 : Int =>
  I_2 k1 H18 ∧ M_2 k1 H18 < M_2 k H16))))))))))))) (
  letV (IntKind.i64.wrap (k + (1 : Int))) (fun k2 : Int =>
  I_2 k2 H17 ∧ M_2 k2 H17 < M_2 k H16))))))))))) (
  letV (IntKind.i64.wrap (k + (1 : Int))) (fun k3 : Int =>
  I_2 k3 H16 ∧ M_2 k3 H16 < M_2 k H16))))))))) (
  letV (IntKind.i64.wrap (k + (1 : Int))) (fun k4 : Int =>
  I_2 k4 H16 ∧ M_2 k4 H16 < M_2 k H16))))))) (
  letV (IntKind.i64.wrap (i2 + (1 : Int))) (fun i3 : Int =>
  I_1 i3 H16 ∧ M_1 i3 H16 < M_1 i2 H6))

def F_ref21_Check_k2 (R : Value → Heap → Prop) (l : Sl) (a : Sl) (I_1 : Int → Heap → Prop) (M_1 : Int → Heap → Nat) (i2 : Int) (H6 : Heap) (parent : Int) (free1 : Sl) (H13 : Heap) : Prop :=
  ∃ x45 : Int, rd H13 ((⟨H6.size, 0, none⟩ : Addr).add 4) = some (.int .u64 x45) ∧ (
  ∃ x46 : Int, rd H13 ((⟨H6.size, 0, none⟩ : Addr).add 3) = some (.int .i64 x46) ∧ (
  0 ≤ (IntKind.u64.wrap x46) ∧ (
  (IntKind.u64.wrap ((1 : Int) * 2 ^ (min (IntKind.u64.wrap x46).toNat IntKind.u64.bits))) ≠ 0 ∧ (
  iteB ((x45.tmod (IntKind.u64.wrap ((1 : Int) * 2 ^ (min (IntKind.u64.wrap x46).toNat IntKind.u64.bits)))) != (0 : Int)) (
  R (.bool false) H13) (
  ∃ x47 : Int, rd H13 (⟨H6.size, 0, none⟩ : Addr) = some (.int .i64 x47) ∧ ∃ x48 : Int, rd H13 ((⟨H6.size, 0, none⟩ : Addr).add 1) = some (.int .i64 x48) ∧ ∃ x49 : Int, rd H13 ((⟨H6.size, 0, none⟩ : Addr).add 2) = some (.int .i64 x49) ∧ ∃ x50 : Int, rd H13 ((⟨H6.size, 0, none⟩ : Addr).add 3) = some (.int .i64 x50) ∧ ∃ x51 : Int, rd H13 ((⟨H6.size, 0, none⟩ : Addr).add 4) = some (.int .u64 x51) ∧ (
  CallsH Try.prog n_ref21_span #[.agg #[.int .i64 x47, .int .i64 x48, .int .i64 x49, .int .i64 x50, .int .u64 x51]] H13 (fun v6 H14 =>
  ∃ x52 : Int, ∃ x53 : Int, v6 = .agg #[.int .u64 x52, .int .u64 x53] ∧ (
  CallsH Try.prog n_ref21_inside #[.slice free1.p free1.n free1.c, .agg #[.int .u64 x52, .int .u64 x53]] H14 (fun v7 H15 =>
  ∃ x54 : Bool, v7 = .bool x54 ∧ (
  iteB (!x54) (
  R (.bool false) H15) (
  ∃ I_2 : Int → Heap → Prop, ∃ M_2 : Int → Heap → Nat, I_2 (0 : Int) H15 ∧ (∀ k : Int, ∀ H16 : Heap, I_2 k H16 → F_ref21_Check_r1 R l a I_1 M_1 i2 H6 parent I_2 M_2 k H16))))))))))))

def F_ref21_Check_r3 (R : Value → Heap → Prop) (H : Heap) (l : Sl) (a : Sl) (I_1 : Int → Heap → Prop) (M_1 : Int → Heap → Nat) (i2 : Int) (H6 : Heap) : Prop :=
  iteB (decide (i2 < (a.n : Int))) (
  0 ≤ i2 ∧ i2 < (a.n : Int) ∧ (unSome a.p (fun a3 =>
  ∃ x21 : Int, rd H6 (a3.add (i2.toNat * 5)) = some (.int .i64 x21) ∧ ∃ x22 : Int, rd H6 ((a3.add (i2.toNat * 5)).add 1) = some (.int .i64 x22) ∧ ∃ x23 : Int, rd H6 ((a3.add (i2.toNat * 5)).add 2) = some (.int .i64 x23) ∧ ∃ x24 : Int, rd H6 ((a3.add (i2.toNat * 5)).add 3) = some (.int .i64 x24) ∧ ∃ x25 : Int, rd H6 ((a3.add (i2.toNat * 5)).add 4) = some (.int .u64 x25) ∧ (
  letH (H6.push (.cells #[.int .i64 (0 : Int), .int .i64 (0 : Int), .int .i64 (0 : Int), .int .i64 (0 : Int), .int .u64 (0 : Int)] t_api_Assignment (0, 0))) (fun H7 : Heap =>
  okRow H7 (⟨H6.size, 0, none⟩ : Addr) 5 ∧ (
  letH (wrs H7 (⟨H6.size, 0, none⟩ : Addr) [.int .i64 x21, .int .i64 x22, .int .i64 x23, .int .i64 x24, .int .u64 x25]) (fun H8 : Heap =>
  ∃ x26 : Int, rd H8 (⟨H.size, 0, none⟩ : Addr) = some (.int .i64 x26) ∧ ∃ x27 : Sl, rd H8 ((⟨H.size, 0, none⟩ : Addr).add 1) = some (.slice x27.p x27.n x27.c) ∧ ∃ x28 : Sl, rd H8 ((⟨H.size, 0, none⟩ : Addr).add 2) = some (.slice x28.p x28.n x28.c) ∧ ∃ x29 : Sl, rd H8 ((⟨H.size, 0, none⟩ : Addr).add 3) = some (.slice x29.p x29.n x29.c) ∧ ∃ x30 : Sl, rd H8 ((⟨H.size, 0, none⟩ : Addr).add 4) = some (.slice x30.p x30.n x30.c) ∧ ∃ x31 : Sl, rd H8 ((⟨H.size, 0, none⟩ : Addr).add 5) = some (.slice x31.p x31.n x31.c) ∧ ∃ x32 : Sl, rd H8 ((⟨H.size, 0, none⟩ : Addr).add 6) = some (.slice x32.p x32.n x32.c) ∧ ∃ x33 : Sl, rd H8 ((⟨H.size, 0, none⟩ : Addr).add 7) = some (.slice x33.p x33.n x33.c) ∧ (
  ∃ x34 : Int, rd H8 ((⟨H6.size, 0, none⟩ : Addr).add 2) = some (.int .i64 x34) ∧ (
  CallsH Try.prog n_ref21_Space #[.agg #[.int .i64 x26, .slice x27.p x27.n x27.c, .slice x28.p x28.n x28.c, .slice x29.p x29.n x29.c, .slice x30.p x30.n x30.c, .slice x31.p x31.n x31.c, .slice x32.p x32.n x32.c, .slice x33.p x33.n x33.c], .int .i64 x34] H8 (fun v3 H9 =>
  ∃ free : Sl, v3 = .slice free.p free.n free.c ∧ (
  ∃ x35 : Int, rd H9 (⟨H6.size, 0, none⟩ : Addr) = some (.int .i64 x35) ∧ (
  0 ≤ x35 ∧ x35 < (l.n : Int) ∧ (unSome l.p (fun a4 =>
  ∃ parent : Int, rd H9 (a4.add (x35.toNat * 11)) = some (.int .i64 parent) ∧ (
  ∃ J_ : Sl → Heap → Prop, (
  iteB (decide (parent ≥ (0 : Int))) (
  ∃ x36 : Int, rd H9 ((⟨H6.size, 0, none⟩ : Addr).add 2) = some (.int .i64 x36) ∧ (
  CallsH Try.prog n_ref21_at #[.slice a.p a.n a.c, .int .i64 parent, .int .i64 (IntKind.i64.wrap ((-1 : Int) - x36))] H9 (fun v4 H10 =>
  ∃ x37 : Int, v4 = .int .i64 x37 ∧ (
  0 ≤ x37 ∧ x37 < (a.n : Int) ∧ (unSome a.p (fun a5 =>
  ∃ x38 : Int, rd H10 (a5.add (x37.toNat * 5)) = some (.int .i64 x38) ∧ ∃ x39 : Int, rd H10 ((a5.add (x37.toNat * 5)).add 1) = some (.int .i64 x39) ∧ ∃ x40 : Int, rd H10 ((a5.add (x37.toNat * 5)).add 2) = some (.int .i64 x40) ∧ ∃ x41 : Int, rd H10 ((a5.add (x37.toNat * 5)).add 3) = some (.int .i64 x41) ∧ ∃ x42 : Int, rd H10 ((a5.add (x37.toNat * 5)).add 4) = some (.int .u64 x42) ∧ (
  CallsH Try.prog n_ref21_span #[.agg #[.int .i64 x38, .int .i64 x39, .int .i64 x40, .int .i64 x41, .int .u64 x42]] H10 (fun v5 H11 =>
  ∃ x43 : Int, ∃ x44 : Int, v5 = .agg #[.int .u64 x43, .int .u64 x44] ∧ (
  letH (H11.push (.cells #[.int .u64 x43, .int .u64 x44] t_api_Range (0, 0))) (fun H12 : Heap =>
  J_ (Sl.mk (some (⟨H11.size, 0, none⟩ : Addr)) 1 1) H12)))))))))) (
  J_ free H9)) ∧ (∀ free1 : Sl, ∀ H13 : Heap, J_ free1 H13 → F_ref21_Check_k2 R l a I_1 M_1 i2 H6 parent free1 H13)))))))))))))))) (
  R (.bool true) H6)

def F_ref21_Check_r4 (R : Value → Heap → Prop) (H : Heap) (l : Sl) (a : Sl) (x11 : Sl) (I_ : Int → Heap → Prop) (M_ : Int → Heap → Nat) (i : Int) (H5 : Heap) : Prop :=
  iteB (decide (i < (a.n : Int))) (
  0 ≤ i ∧ i < (a.n : Int) ∧ (unSome a.p (fun a1 =>
  ∃ x13 : Int, rd H5 (a1.add (i.toNat * 5)) = some (.int .i64 x13) ∧ ∃ x14 : Int, rd H5 ((a1.add (i.toNat * 5)).add 1) = some (.int .i64 x14) ∧ ∃ x15 : Int, rd H5 ((a1.add (i.toNat * 5)).add 2) = some (.int .i64 x15) ∧ ∃ x16 : Int, rd H5 ((a1.add (i.toNat * 5)).add 3) = some (.int .i64 x16) ∧ (
  0 ≤ i ∧ i < (x11.n : Int) ∧ (unSome x11.p (fun a2 =>
  ∃ x17 : Int, rd H5 (a2.add (i.toNat * 4)) = some (.int .i64 x17) ∧ ∃ x18 : Int, rd H5 ((a2.add (i.toNat * 4)).add 1) = some (.int .i64 x18) ∧ ∃ x19 : Int, rd H5 ((a2.add (i.toNat * 4)).add 2) = some (.int .i64 x19) ∧ ∃ x20 : Int, rd H5 ((a2.add (i.toNat * 4)).add 3) = some (.int .i64 x20) ∧ (
  iteB (!((x13 == x17) && ((x14 == x18) && ((x15 == x19) && ((x16 == x20) && true))))) (
  R (.bool false) H5) (
  letV (IntKind.i64.wrap (i + (1 : Int))) (fun i1 : Int =>
  I_ i1 H5 ∧ M_ i1 H5 < M_ i H5))))))))) (
  ∃ I_1 : Int → Heap → Prop, ∃ M_1 : Int → Heap → Nat, I_1 (0 : Int) H5 ∧ (∀ i2 : Int, ∀ H6 : Heap, I_1 i2 H6 → F_ref21_Check_r3 R H l a I_1 M_1 i2 H6))

def F_ref21_Check (R : Value → Heap → Prop) (l : Sl) (h_0 : Int) (h_1 : Sl) (h_2 : Sl) (h_3 : Sl) (h_4 : Sl) (h_5 : Sl) (h_6 : Sl) (h_7 : Sl) (a : Sl) (H : Heap) : Prop :=
  letH (H.push (.cells #[.int .i64 h_0, .slice h_1.p h_1.n h_1.c, .slice h_2.p h_2.n h_2.c, .slice h_3.p h_3.n h_3.c, .slice h_4.p h_4.n h_4.c, .slice h_5.p h_5.n h_5.c, .slice h_6.p h_6.n h_6.c, .slice h_7.p h_7.n h_7.c] t_api_Host (0, 0))) (fun H1 : Heap =>
  CallsH Try.prog n_ref18_Valid #[.slice l.p l.n l.c] H1 (fun v H2 =>
  ∃ x : Bool, v = .bool x ∧ (
  iteB (!x) (
  R (.bool false) H2) (
  ∃ x1 : Int, rd H2 (⟨H.size, 0, none⟩ : Addr) = some (.int .i64 x1) ∧ ∃ x2 : Sl, rd H2 ((⟨H.size, 0, none⟩ : Addr).add 1) = some (.slice x2.p x2.n x2.c) ∧ ∃ x3 : Sl, rd H2 ((⟨H.size, 0, none⟩ : Addr).add 2) = some (.slice x3.p x3.n x3.c) ∧ ∃ x4 : Sl, rd H2 ((⟨H.size, 0, none⟩ : Addr).add 3) = some (.slice x4.p x4.n x4.c) ∧ ∃ x5 : Sl, rd H2 ((⟨H.size, 0, none⟩ : Addr).add 4) = some (.slice x5.p x5.n x5.c) ∧ ∃ x6 : Sl, rd H2 ((⟨H.size, 0, none⟩ : Addr).add 5) = some (.slice x6.p x6.n x6.c) ∧ ∃ x7 : Sl, rd H2 ((⟨H.size, 0, none⟩ : Addr).add 6) = some (.slice x7.p x7.n x7.c) ∧ ∃ x8 : Sl, rd H2 ((⟨H.size, 0, none⟩ : Addr).add 7) = some (.slice x8.p x8.n x8.c) ∧ (
  CallsH Try.prog n_ref21_ValidHost #[.agg #[.int .i64 x1, .slice x2.p x2.n x2.c, .slice x3.p x3.n x3.c, .slice x4.p x4.n x4.c, .slice x5.p x5.n x5.c, .slice x6.p x6.n x6.c, .slice x7.p x7.n x7.c, .slice x8.p x8.n x8.c]] H2 (fun v1 H3 =>
  ∃ x9 : Bool, v1 = .bool x9 ∧ (
  iteB (!x9) (
  R (.bool false) H3) (
  ∃ x10 : Sl, rd H3 ((⟨H.size, 0, none⟩ : Addr).add 3) = some (.slice x10.p x10.n x10.c) ∧ (
  CallsH Try.prog n_ref18_Needs #[.slice l.p l.n l.c, .bool (decide ((x10.n : Int) > (0 : Int)))] H3 (fun v2 H4 =>
  ∃ x11 : Sl, ∃ x12 : Int, v2 = .tuple #[.slice x11.p x11.n x11.c, .int .i64 x12] ∧ (
  iteB (x12 != (0 : Int)) (
  R (.bool false) H4) (
  iteB ((x11.n : Int) != (a.n : Int)) (
  R (.bool false) H4) (
  ∃ I_ : Int → Heap → Prop, ∃ M_ : Int → Heap → Nat, I_ (0 : Int) H4 ∧ (∀ i : Int, ∀ H5 : Heap, I_ i H5 → F_ref21_Check_r4 R H l a x11 I_ M_ i H5))))))))))))))

theorem F_ref21_Check_eq (R : Value → Heap → Prop) (l : Sl) (h_0 : Int) (h_1 : Sl) (h_2 : Sl) (h_3 : Sl) (h_4 : Sl) (h_5 : Sl) (h_6 : Sl) (h_7 : Sl) (a : Sl) (H : Heap) : wpF Try.prog Try.f32 [(9, .int .i64 0), (10, .int .i64 0), (12, .slice none 0 0), (14, .int .i64 0)] [(19, [12], [0, 2, 4, 10, 11, 13])] [(7, [9], [0, 2, 4, 7]), (12, [10], [0, 2, 4]), (22, [14], [0, 2, 4, 10, 11, 13])] [17] [.slice l.p l.n l.c, .agg #[.int .i64 h_0, .slice h_1.p h_1.n h_1.c, .slice h_2.p h_2.n h_2.c, .slice h_3.p h_3.n h_3.c, .slice h_4.p h_4.n h_4.c, .slice h_5.p h_5.n h_5.c, .slice h_6.p h_6.n h_6.c, .slice h_7.p h_7.n h_7.c], .slice a.p a.n a.c] H R = F_ref21_Check R l h_0 h_1 h_2 h_3 h_4 h_5 h_6 h_7 a H := by kernel_rfl

theorem F_ref21_Check_ok {R : Value → Heap → Prop} (l : Sl) (h_0 : Int) (h_1 : Sl) (h_2 : Sl) (h_3 : Sl) (h_4 : Sl) (h_5 : Sl) (h_6 : Sl) (h_7 : Sl) (a : Sl) {H : Heap} (h : F_ref21_Check R l h_0 h_1 h_2 h_3 h_4 h_5 h_6 h_7 a H) : CallsH Try.prog n_ref21_Check #[.slice l.p l.n l.c, .agg #[.int .i64 h_0, .slice h_1.p h_1.n h_1.c, .slice h_2.p h_2.n h_2.c, .slice h_3.p h_3.n h_3.c, .slice h_4.p h_4.n h_4.c, .slice h_5.p h_5.n h_5.c, .slice h_6.p h_6.n h_6.c, .slice h_7.p h_7.n h_7.c], .slice a.p a.n a.c] H R :=
  wpF_ok Try.func32 (F_ref21_Check_eq R l h_0 h_1 h_2 h_3 h_4 h_5 h_6 h_7 a H) h

/-! ### 33: platformfw/allocate.placeable -/

def F_allocate_placeable_r1 (R : Value → Heap → Prop) (sizes : Sl) (I_ : Int → Heap → Prop) (M_ : Int → Heap → Nat) (x1 : Int) (H2 : Heap) : Prop :=
  iteB (decide (x1 < (sizes.n : Int))) (
  0 ≤ x1 ∧ x1 < (sizes.n : Int) ∧ (unSome sizes.p (fun a =>
  ∃ size : Int, rd H2 (a.add (x1.toNat * 1)) = some (.int .i64 size) ∧ (
  iteB (decide (size < (0 : Int))) (
  R (.bool false) H2) (
  iteB (decide (size > (44 : Int))) (
  R (.bool false) H2) (
  I_ (IntKind.i64.wrap (x1 + (1 : Int))) H2 ∧ M_ (IntKind.i64.wrap (x1 + (1 : Int))) H2 < M_ x1 H2)))))) (
  R (.bool true) H2)

def F_allocate_placeable (R : Value → Heap → Prop) (free : Sl) (sizes : Sl) (H : Heap) : Prop :=
  CallsH Try.prog n_allocate_validRanges #[.slice free.p free.n free.c] H (fun v H1 =>
  ∃ x : Bool, v = .bool x ∧ (
  iteB (!x) (
  R (.bool false) H1) (
  iteB (decide ((sizes.n : Int) > (1024 : Int))) (
  R (.bool false) H1) (
  ∃ I_ : Int → Heap → Prop, ∃ M_ : Int → Heap → Nat, I_ (0 : Int) H1 ∧ (∀ x1 : Int, ∀ H2 : Heap, I_ x1 H2 → F_allocate_placeable_r1 R sizes I_ M_ x1 H2)))))

theorem F_allocate_placeable_eq (R : Value → Heap → Prop) (free : Sl) (sizes : Sl) (H : Heap) : wpF Try.prog Try.f33 [(17, .int .i64 0)] [] [(4, [17], [15, 16])] [17] [.slice free.p free.n free.c, .slice sizes.p sizes.n sizes.c] H R = F_allocate_placeable R free sizes H := by kernel_rfl

theorem F_allocate_placeable_ok {R : Value → Heap → Prop} (free : Sl) (sizes : Sl) {H : Heap} (h : F_allocate_placeable R free sizes H) : CallsH Try.prog n_allocate_placeable #[.slice free.p free.n free.c, .slice sizes.p sizes.n sizes.c] H R :=
  wpF_ok Try.func33 (F_allocate_placeable_eq R free sizes H) h

/-! ### 34: slices.SortStableFunc[[]int,int] -/

def F_slices_SortStableFunc_sl_int_int (R : Value → Heap → Prop) (x : Sl) (cap : Addr) (H : Heap) : Prop :=
  CallsH Try.prog n_slices_stableCmpFunc_int #[.slice x.p x.n x.c, .int .i64 (x.n : Int), .func (.func 35) #[] #[.pointer (some cap)]] H (fun v H1 =>
  v = .tuple #[] ∧ (
  R (.tuple #[]) H1))

theorem F_slices_SortStableFunc_sl_int_int_eq (R : Value → Heap → Prop) (x : Sl) (cap : Addr) (H : Heap) : wpF Try.prog Try.f34 [] [] [] [17] [.slice x.p x.n x.c, .func (.func 35) #[] #[.pointer (some cap)]] H R = F_slices_SortStableFunc_sl_int_int R x cap H := by kernel_rfl

theorem F_slices_SortStableFunc_sl_int_int_ok {R : Value → Heap → Prop} (x : Sl) (cap : Addr) {H : Heap} (h : F_slices_SortStableFunc_sl_int_int R x cap H) : CallsH Try.prog n_slices_SortStableFunc_sl_int_int #[.slice x.p x.n x.c, .func (.func 35) #[] #[.pointer (some cap)]] H R :=
  wpF_ok Try.func34 (F_slices_SortStableFunc_sl_int_int_eq R x cap H) h

/-! ### 35: platformfw/allocate.Place$1 -/

def F_allocate_Place_1 (R : Value → Heap → Prop) (a : Int) (b : Int) (cap0 : Addr) (H : Heap) : Prop :=
  ∃ x : Sl, rd H cap0 = some (.slice x.p x.n x.c) ∧ (
  0 ≤ b ∧ b < (x.n : Int) ∧ (unSome x.p (fun a1 =>
  ∃ x1 : Int, rd H (a1.add (b.toNat * 1)) = some (.int .i64 x1) ∧ (
  ∃ x2 : Sl, rd H cap0 = some (.slice x2.p x2.n x2.c) ∧ (
  0 ≤ a ∧ a < (x2.n : Int) ∧ (unSome x2.p (fun a2 =>
  ∃ x3 : Int, rd H (a2.add (a.toNat * 1)) = some (.int .i64 x3) ∧ (
  CallsH Try.prog n_cmp_Compare_int #[.int .i64 x1, .int .i64 x3] H (fun v H1 =>
  ∃ x4 : Int, v = .int .i64 x4 ∧ (
  R (.int .i64 x4) H1))))))))))

theorem F_allocate_Place_1_eq (R : Value → Heap → Prop) (a : Int) (b : Int) (cap0 : Addr) (H : Heap) : wpF Try.prog Try.f35 [] [] [] [17] [.int .i64 a, .int .i64 b, .pointer (some cap0)] H R = F_allocate_Place_1 R a b cap0 H := by kernel_rfl

theorem F_allocate_Place_1_ok {R : Value → Heap → Prop} (a : Int) (b : Int) (cap0 : Addr) {H : Heap} (h : F_allocate_Place_1 R a b cap0 H) : CallsH Try.prog n_allocate_Place_1 #[.int .i64 a, .int .i64 b, .pointer (some cap0)] H R :=
  wpF_ok Try.func35 (F_allocate_Place_1_eq R a b cap0 H) h

/-! ### 36: cmp.Compare[int] -/

def F_cmp_Compare_int (R : Value → Heap → Prop) (x : Int) (y : Int) (H : Heap) : Prop :=
  CallsH Try.prog n_cmp_isNaN_int #[.int .i64 x] H (fun v H1 =>
  ∃ xNaN : Bool, v = .bool xNaN ∧ (
  CallsH Try.prog n_cmp_isNaN_int #[.int .i64 y] H1 (fun v1 H2 =>
  ∃ yNaN : Bool, v1 = .bool yNaN ∧ (
  iteB xNaN (
  iteB yNaN (
  R (.int .i64 (0 : Int)) H2) (
  R (.int .i64 (-1 : Int)) H2)) (
  iteB yNaN (
  R (.int .i64 (1 : Int)) H2) (
  iteB (decide (x < y)) (
  R (.int .i64 (-1 : Int)) H2) (
  iteB (decide (x > y)) (
  R (.int .i64 (1 : Int)) H2) (
  R (.int .i64 (0 : Int)) H2))))))))

theorem F_cmp_Compare_int_eq (R : Value → Heap → Prop) (x : Int) (y : Int) (H : Heap) : wpF Try.prog Try.f36 [] [] [] [17] [.int .i64 x, .int .i64 y] H R = F_cmp_Compare_int R x y H := by kernel_rfl

theorem F_cmp_Compare_int_ok {R : Value → Heap → Prop} (x : Int) (y : Int) {H : Heap} (h : F_cmp_Compare_int R x y H) : CallsH Try.prog n_cmp_Compare_int #[.int .i64 x, .int .i64 y] H R :=
  wpF_ok Try.func36 (F_cmp_Compare_int_eq R x y H) h

/-! ### 37: platformfw/allocate.merged -/

def F_allocate_merged_k1 (I_ : Sl → Int → Heap → Prop) (M_ : Sl → Int → Heap → Nat) (result : Sl) (x : Int) (H3 : Heap) (k : Int) (x6 : Bool) (H6 : Heap) : Prop :=
  iteB x6 (
  0 ≤ k ∧ k < (result.n : Int) ∧ (unSome result.p (fun a3 =>
  ∃ x7 : Int, rd H6 ((a3.add (k.toNat * 2)).add 1) = some (.int .u64 x7) ∧ (
  ∃ x8 : Int, rd H6 (⟨H3.size, 0, none⟩ : Addr) = some (.int .u64 x8) ∧ (
  ∃ x9 : Int, rd H6 ((⟨H3.size, 0, none⟩ : Addr).add 1) = some (.int .u64 x9) ∧ (
  0 ≤ k ∧ k < (result.n : Int) ∧ (unSome result.p (fun a4 =>
  ∃ x10 : Int, rd H6 (a4.add (k.toNat * 2)) = some (.int .u64 x10) ∧ (
  0 ≤ k ∧ k < (result.n : Int) ∧ (unSome result.p (fun a5 =>
  okRow H6 ((a5.add (k.toNat * 2)).add 1) 1 ∧ (
  letH (wrs H6 ((a5.add (k.toNat * 2)).add 1) [.int .u64 (if (IntKind.u64.wrap ((IntKind.u64.wrap (x8 + x9)) - x10)) > x7 then (IntKind.u64.wrap ((IntKind.u64.wrap (x8 + x9)) - x10)) else x7)]) (fun H7 : Heap =>
  I_ result (IntKind.i64.wrap (x + (1 : Int))) H7 ∧ M_ result (IntKind.i64.wrap (x + (1 : Int))) H7 < M_ result x H3))))))))))))) (
  ∃ x11 : Int, rd H6 (⟨H3.size, 0, none⟩ : Addr) = some (.int .u64 x11) ∧ ∃ x12 : Int, rd H6 ((⟨H3.size, 0, none⟩ : Addr).add 1) = some (.int .u64 x12) ∧ (
  letH (H6.push (.cells #[.int .u64 x11, .int .u64 x12] t_api_Range (0, 0))) (fun H8 : Heap =>
  runH Try.prog (Builtin.append_ #[t_sl_api_Range, t_sl_api_Range] t_sl_api_Range #[.slice result.p result.n result.c, .slice (some (⟨H6.size, 0, none⟩ : Addr)) 1 1]) H8 (fun v2 H9 =>
  ∃ result1 : Sl, v2 = .slice result1.p result1.n result1.c ∧ (
  I_ result1 (IntKind.i64.wrap (x + (1 : Int))) H9 ∧ M_ result1 (IntKind.i64.wrap (x + (1 : Int))) H9 < M_ result x H3)))))

def F_allocate_merged_r2 (R : Value → Heap → Prop) (sorted : Sl) (I_ : Sl → Int → Heap → Prop) (M_ : Sl → Int → Heap → Nat) (result : Sl) (x : Int) (H3 : Heap) : Prop :=
  iteB (decide (x < (sorted.n : Int))) (
  0 ≤ x ∧ x < (sorted.n : Int) ∧ (unSome sorted.p (fun a =>
  ∃ x1 : Int, rd H3 (a.add (x.toNat * 2)) = some (.int .u64 x1) ∧ ∃ x2 : Int, rd H3 ((a.add (x.toNat * 2)).add 1) = some (.int .u64 x2) ∧ (
  letH (H3.push (.cells #[.int .u64 (0 : Int), .int .u64 (0 : Int)] t_api_Range (0, 0))) (fun H4 : Heap =>
  okRow H4 (⟨H3.size, 0, none⟩ : Addr) 2 ∧ (
  letH (wrs H4 (⟨H3.size, 0, none⟩ : Addr) [.int .u64 x1, .int .u64 x2]) (fun H5 : Heap =>
  letV (IntKind.i64.wrap ((result.n : Int) - (1 : Int))) (fun k : Int =>
  ∃ J_ : Bool → Heap → Prop, (
  iteB (decide (k ≥ (0 : Int))) (
  ∃ x3 : Int, rd H5 (⟨H3.size, 0, none⟩ : Addr) = some (.int .u64 x3) ∧ (
  0 ≤ k ∧ k < (result.n : Int) ∧ (unSome result.p (fun a1 =>
  ∃ x4 : Int, rd H5 (a1.add (k.toNat * 2)) = some (.int .u64 x4) ∧ (
  0 ≤ k ∧ k < (result.n : Int) ∧ (unSome result.p (fun a2 =>
  ∃ x5 : Int, rd H5 ((a2.add (k.toNat * 2)).add 1) = some (.int .u64 x5) ∧ (
  J_ (decide (x3 ≤ (IntKind.u64.wrap (x4 + x5)))) H5)))))))) (
  J_ false H5)) ∧ (∀ x6 : Bool, ∀ H6 : Heap, J_ x6 H6 → F_allocate_merged_k1 I_ M_ result x H3 k x6 H6))))))))) (
  R (.slice result.p result.n result.c) H3)

def F_allocate_merged (R : Value → Heap → Prop) (l : Sl) (H : Heap) : Prop :=
  CallsH Try.prog n_slices_Clone_sl_api_Range_api_Range #[.slice l.p l.n l.c] H (fun v H1 =>
  ∃ sorted : Sl, v = .slice sorted.p sorted.n sorted.c ∧ (
  CallsH Try.prog n_slices_SortFunc_sl_api_Range_api_Range #[.slice sorted.p sorted.n sorted.c, .func (.func 72) #[] #[]] H1 (fun v1 H2 =>
  v1 = .tuple #[] ∧ (
  ∃ I_ : Sl → Int → Heap → Prop, ∃ M_ : Sl → Int → Heap → Nat, I_ (Sl.mk none 0 0) (0 : Int) H2 ∧ (∀ result : Sl, ∀ x : Int, ∀ H3 : Heap, I_ result x H3 → F_allocate_merged_r2 R sorted I_ M_ result x H3)))))

theorem F_allocate_merged_eq (R : Value → Heap → Prop) (l : Sl) (H : Heap) : wpF Try.prog Try.f37 [(4, .slice none 0 0), (14, .int .i64 0), (38, .bool false)] [(9, [38], [4, 6, 7, 12, 13, 14])] [(5, [4, 14], [12, 13])] [17] [.slice l.p l.n l.c] H R = F_allocate_merged R l H := by kernel_rfl

theorem F_allocate_merged_ok {R : Value → Heap → Prop} (l : Sl) {H : Heap} (h : F_allocate_merged R l H) : CallsH Try.prog n_allocate_merged #[.slice l.p l.n l.c] H R :=
  wpF_ok Try.func37 (F_allocate_merged_eq R l H) h

/-! ### 38: platformfw/allocate.take -/

def F_allocate_take_k1 (R : Value → Heap → Prop) (l : Sl) (x : Int) (base : Int) (parts3 : Sl) (H9 : Heap) : Prop :=
  CallsH Try.prog n_slices_Replace_sl_api_Range_api_Range #[.slice l.p l.n l.c, .int .i64 x, .int .i64 (IntKind.i64.wrap (x + (1 : Int))), .slice parts3.p parts3.n parts3.c] H9 (fun v2 H10 =>
  ∃ x9 : Sl, v2 = .slice x9.p x9.n x9.c ∧ (
  R (.tuple #[.int .u64 base, .slice x9.p x9.n x9.c, .bool true]) H10))

def F_allocate_take_k2 (R : Value → Heap → Prop) (l : Sl) (size : Int) (x : Int) (base : Int) (endv : Int) (parts1 : Sl) (H6 : Heap) : Prop :=
  ∃ J_1 : Sl → Heap → Prop, (
  iteB (decide ((IntKind.u64.wrap (base + size)) < endv)) (
  letH (H6.push (.cells #[.int .u64 (IntKind.u64.wrap (base + size)), .int .u64 (IntKind.u64.wrap ((IntKind.u64.wrap (endv - base)) - size))] t_api_Range (0, 0))) (fun H7 : Heap =>
  runH Try.prog (Builtin.append_ #[t_sl_api_Range, t_sl_api_Range] t_sl_api_Range #[.slice parts1.p parts1.n parts1.c, .slice (some (⟨H6.size, 0, none⟩ : Addr)) 1 1]) H7 (fun v1 H8 =>
  ∃ parts2 : Sl, v1 = .slice parts2.p parts2.n parts2.c ∧ (
  J_1 parts2 H8)))) (
  J_1 parts1 H6)) ∧ (∀ parts3 : Sl, ∀ H9 : Heap, J_1 parts3 H9 → F_allocate_take_k1 R l x base parts3 H9)

def F_allocate_take_r3 (R : Value → Heap → Prop) (l : Sl) (k : Int) (size : Int) (I_ : Int → Heap → Prop) (M_ : Int → Heap → Nat) (x : Int) (H1 : Heap) : Prop :=
  iteB (decide (x < (l.n : Int))) (
  0 ≤ x ∧ x < (l.n : Int) ∧ (unSome l.p (fun a =>
  ∃ x1 : Int, rd H1 (a.add (x.toNat * 2)) = some (.int .u64 x1) ∧ ∃ x2 : Int, rd H1 ((a.add (x.toNat * 2)).add 1) = some (.int .u64 x2) ∧ (
  letH (H1.push (.cells #[.int .u64 (0 : Int), .int .u64 (0 : Int)] t_api_Range (0, 0))) (fun H2 : Heap =>
  okRow H2 (⟨H1.size, 0, none⟩ : Addr) 2 ∧ (
  letH (wrs H2 (⟨H1.size, 0, none⟩ : Addr) [.int .u64 x1, .int .u64 x2]) (fun H3 : Heap =>
  ∃ x3 : Int, rd H3 (⟨H1.size, 0, none⟩ : Addr) = some (.int .u64 x3) ∧ (
  0 ≤ k ∧ (
  0 ≤ k ∧ (
  letV (IntKind.u64.wrap (((IntKind.u64.wrap ((IntKind.u64.wrap (x3 + size)) - (1 : Int))).fdiv (2 ^ (min k.toNat IntKind.u64.bits))) * 2 ^ (min k.toNat IntKind.u64.bits))) (fun base : Int =>
  ∃ x4 : Int, rd H3 (⟨H1.size, 0, none⟩ : Addr) = some (.int .u64 x4) ∧ (
  ∃ x5 : Int, rd H3 ((⟨H1.size, 0, none⟩ : Addr).add 1) = some (.int .u64 x5) ∧ (
  letV (IntKind.u64.wrap (x4 + x5)) (fun endv : Int =>
  iteB (decide (base ≥ endv)) (
  I_ (IntKind.i64.wrap (x + (1 : Int))) H3 ∧ M_ (IntKind.i64.wrap (x + (1 : Int))) H3 < M_ x H1) (
  iteB (decide ((IntKind.u64.wrap (endv - base)) < size)) (
  I_ (IntKind.i64.wrap (x + (1 : Int))) H3 ∧ M_ (IntKind.i64.wrap (x + (1 : Int))) H3 < M_ x H1) (
  ∃ J_ : Sl → Heap → Prop, (
  ∃ x6 : Int, rd H3 (⟨H1.size, 0, none⟩ : Addr) = some (.int .u64 x6) ∧ (
  iteB (decide (base > x6)) (
  ∃ x7 : Int, rd H3 (⟨H1.size, 0, none⟩ : Addr) = some (.int .u64 x7) ∧ (
  ∃ x8 : Int, rd H3 (⟨H1.size, 0, none⟩ : Addr) = some (.int .u64 x8) ∧ (
  letH (H3.push (.cells #[.int .u64 x7, .int .u64 (IntKind.u64.wrap (base - x8))] t_api_Range (0, 0))) (fun H4 : Heap =>
  runH Try.prog (Builtin.append_ #[t_sl_api_Range, t_sl_api_Range] t_sl_api_Range #[.slice none 0 0, .slice (some (⟨H3.size, 0, none⟩ : Addr)) 1 1]) H4 (fun v H5 =>
  ∃ parts : Sl, v = .slice parts.p parts.n parts.c ∧ (
  J_ parts H5)))))) (
  J_ (Sl.mk none 0 0) H3))) ∧ (∀ parts1 : Sl, ∀ H6 : Heap, J_ parts1 H6 → F_allocate_take_k2 R l size x base endv parts1 H6))))))))))))))))) (
  R (.tuple #[.int .u64 (0 : Int), .slice l.p l.n l.c, .bool false]) H1)

def F_allocate_take (R : Value → Heap → Prop) (l : Sl) (k : Int) (H : Heap) : Prop :=
  0 ≤ k ∧ (
  letV (IntKind.u64.wrap ((1 : Int) * 2 ^ (min k.toNat IntKind.u64.bits))) (fun size : Int =>
  ∃ I_ : Int → Heap → Prop, ∃ M_ : Int → Heap → Nat, I_ (0 : Int) H ∧ (∀ x : Int, ∀ H1 : Heap, I_ x H1 → F_allocate_take_r3 R l k size I_ M_ x H1)))

theorem F_allocate_take_eq (R : Value → Heap → Prop) (l : Sl) (k : Int) (H : Heap) : wpF Try.prog Try.f38 [(12, .slice none 0 0), (17, .int .i64 0)] [(11, [12], [0, 7, 8, 10, 11]), (13, [12], [0, 8, 10])] [(3, [17], [0, 1, 7, 15, 16])] [17] [.slice l.p l.n l.c, .int .i64 k] H R = F_allocate_take R l k H := by kernel_rfl

theorem F_allocate_take_ok {R : Value → Heap → Prop} (l : Sl) (k : Int) {H : Heap} (h : F_allocate_take R l k H) : CallsH Try.prog n_allocate_take #[.slice l.p l.n l.c, .int .i64 k] H R :=
  wpF_ok Try.func38 (F_allocate_take_eq R l k H) h

/-! ### 39: platformfw/allocate.certificate -/

def F_allocate_certificate_r1 (R : Value → Heap → Prop) (H : Heap) (l : Sl) (sizes : Sl) (I_ : Int → Heap → Prop) (M_ : Int → Heap → Nat) (k : Int) (H2 : Heap) : Prop :=
  iteB (decide (k ≥ (0 : Int))) (
  CallsH Try.prog n_allocate_demand #[.slice sizes.p sizes.n sizes.c, .int .i64 k] H2 (fun v H3 =>
  ∃ need : Int, v = .int .u64 need ∧ (
  CallsH Try.prog n_allocate_countBlocks #[.slice l.p l.n l.c, .int .i64 k] H3 (fun v1 H4 =>
  ∃ blocks : Int, v1 = .int .u64 blocks ∧ (
  0 ≤ k ∧ (
  iteB (decide (need > (IntKind.u64.wrap (blocks * 2 ^ (min k.toNat IntKind.u64.bits))))) (
  okRow H4 (⟨H.size, 0, none⟩ : Addr) 4 ∧ (
  letH (wrs H4 (⟨H.size, 0, none⟩ : Addr) [.int .i64 (0 : Int), .int .i64 k, .int .u64 need, .int .u64 blocks]) (fun H5 : Heap =>
  ∃ r : Int, rd H5 (⟨H.size, 0, none⟩ : Addr) = some (.int .i64 r) ∧ ∃ r1 : Int, rd H5 ((⟨H.size, 0, none⟩ : Addr).add 1) = some (.int .i64 r1) ∧ ∃ r2 : Int, rd H5 ((⟨H.size, 0, none⟩ : Addr).add 2) = some (.int .u64 r2) ∧ ∃ r3 : Int, rd H5 ((⟨H.size, 0, none⟩ : Addr).add 3) = some (.int .u64 r3) ∧ (
  R (.agg #[.int .i64 r, .int .i64 r1, .int .u64 r2, .int .u64 r3]) H5)))) (
  letV (IntKind.i64.wrap (k - (1 : Int))) (fun k1 : Int =>
  I_ k1 H4 ∧ M_ k1 H4 < M_ k H2)))))))) (
  okRow H2 (⟨H.size, 0, none⟩ : Addr) 4 ∧ (
  letH (wrs H2 (⟨H.size, 0, none⟩ : Addr) [.int .i64 (0 : Int), .int .i64 (0 : Int), .int .u64 (0 : Int), .int .u64 (0 : Int)]) (fun H6 : Heap =>
  ∃ r4 : Int, rd H6 (⟨H.size, 0, none⟩ : Addr) = some (.int .i64 r4) ∧ ∃ r5 : Int, rd H6 ((⟨H.size, 0, none⟩ : Addr).add 1) = some (.int .i64 r5) ∧ ∃ r6 : Int, rd H6 ((⟨H.size, 0, none⟩ : Addr).add 2) = some (.int .u64 r6) ∧ ∃ r7 : Int, rd H6 ((⟨H.size, 0, none⟩ : Addr).add 3) = some (.int .u64 r7) ∧ (
  R (.agg #[.int .i64 r4, .int .i64 r5, .int .u64 r6, .int .u64 r7]) H6))))

def F_allocate_certificate (R : Value → Heap → Prop) (l : Sl) (sizes : Sl) (H : Heap) : Prop :=
  letH (H.push (.cells #[.int .i64 (0 : Int), .int .i64 (0 : Int), .int .u64 (0 : Int), .int .u64 (0 : Int)] t_api_Certificate (0, 0))) (fun H1 : Heap =>
  ∃ I_ : Int → Heap → Prop, ∃ M_ : Int → Heap → Nat, I_ (52 : Int) H1 ∧ (∀ k : Int, ∀ H2 : Heap, I_ k H2 → F_allocate_certificate_r1 R H l sizes I_ M_ k H2))

theorem F_allocate_certificate_eq (R : Value → Heap → Prop) (l : Sl) (sizes : Sl) (H : Heap) : wpF Try.prog Try.f39 [(5, .int .i64 0)] [] [(2, [5], [0, 1, 4])] [17] [.slice l.p l.n l.c, .slice sizes.p sizes.n sizes.c] H R = F_allocate_certificate R l sizes H := by kernel_rfl

theorem F_allocate_certificate_ok {R : Value → Heap → Prop} (l : Sl) (sizes : Sl) {H : Heap} (h : F_allocate_certificate R l sizes H) : CallsH Try.prog n_allocate_certificate #[.slice l.p l.n l.c, .slice sizes.p sizes.n sizes.c] H R :=
  wpF_ok Try.func39 (F_allocate_certificate_eq R l sizes H) h

/-! ### 40: platformfw/platformfwref21.ValidRanges -/

def F_ref21_ValidRanges_r1 (R : Value → Heap → Prop) (l : Sl) (I_ : Int → Heap → Prop) (M_ : Int → Heap → Nat) (i : Int) (H1 : Heap) : Prop :=
  iteB (decide (i < (l.n : Int))) (
  0 ≤ i ∧ i < (l.n : Int) ∧ (unSome l.p (fun a =>
  ∃ x : Int, rd H1 ((a.add (i.toNat * 2)).add 1) = some (.int .u64 x) ∧ (
  iteB (decide (x < (1 : Int))) (
  R (.bool false) H1) (
  0 ≤ i ∧ i < (l.n : Int) ∧ (unSome l.p (fun a1 =>
  ∃ x1 : Int, rd H1 ((a1.add (i.toNat * 2)).add 1) = some (.int .u64 x1) ∧ (
  iteB (decide (x1 > (4503599627370496 : Int))) (
  R (.bool false) H1) (
  0 ≤ i ∧ i < (l.n : Int) ∧ (unSome l.p (fun a2 =>
  ∃ x2 : Int, rd H1 (a2.add (i.toNat * 2)) = some (.int .u64 x2) ∧ (
  0 ≤ i ∧ i < (l.n : Int) ∧ (unSome l.p (fun a3 =>
  ∃ x3 : Int, rd H1 ((a3.add (i.toNat * 2)).add 1) = some (.int .u64 x3) ∧ (
  iteB (decide (x2 > (IntKind.u64.wrap ((4503599627370496 : Int) - x3)))) (
  R (.bool false) H1) (
  letV (IntKind.i64.wrap (i + (1 : Int))) (fun i1 : Int =>
  I_ i1 H1 ∧ M_ i1 H1 < M_ i H1))))))))))))))))) (
  R (.bool true) H1)

def F_ref21_ValidRanges (R : Value → Heap → Prop) (l : Sl) (H : Heap) : Prop :=
  iteB (decide ((l.n : Int) > (1024 : Int))) (
  R (.bool false) H) (
  ∃ I_ : Int → Heap → Prop, ∃ M_ : Int → Heap → Nat, I_ (0 : Int) H ∧ (∀ i : Int, ∀ H1 : Heap, I_ i H1 → F_ref21_ValidRanges_r1 R l I_ M_ i H1))

theorem F_ref21_ValidRanges_eq (R : Value → Heap → Prop) (l : Sl) (H : Heap) : wpF Try.prog Try.f40 [(3, .int .i64 0)] [] [(4, [3], [0])] [17] [.slice l.p l.n l.c] H R = F_ref21_ValidRanges R l H := by kernel_rfl

theorem F_ref21_ValidRanges_ok {R : Value → Heap → Prop} (l : Sl) {H : Heap} (h : F_ref21_ValidRanges R l H) : CallsH Try.prog n_ref21_ValidRanges #[.slice l.p l.n l.c] H R :=
  wpF_ok Try.func40 (F_ref21_ValidRanges_eq R l H) h

/-! ### 41: platformfw/platformfwref21.items -/

def F_ref21_items_r1 (R : Value → Heap → Prop) (sizes : Sl) (I_ : Int → Heap → Prop) (M_ : Int → Heap → Nat) (i : Int) (H1 : Heap) : Prop :=
  iteB (decide (i < (sizes.n : Int))) (
  0 ≤ i ∧ i < (sizes.n : Int) ∧ (unSome sizes.p (fun a =>
  ∃ x : Int, rd H1 (a.add (i.toNat * 1)) = some (.int .i64 x) ∧ (
  iteB (decide (x < (0 : Int))) (
  R (.bool false) H1) (
  0 ≤ i ∧ i < (sizes.n : Int) ∧ (unSome sizes.p (fun a1 =>
  ∃ x1 : Int, rd H1 (a1.add (i.toNat * 1)) = some (.int .i64 x1) ∧ (
  iteB (decide (x1 > (44 : Int))) (
  R (.bool false) H1) (
  letV (IntKind.i64.wrap (i + (1 : Int))) (fun i1 : Int =>
  I_ i1 H1 ∧ M_ i1 H1 < M_ i H1)))))))))) (
  R (.bool true) H1)

def F_ref21_items (R : Value → Heap → Prop) (sizes : Sl) (H : Heap) : Prop :=
  iteB (decide ((sizes.n : Int) > (1024 : Int))) (
  R (.bool false) H) (
  ∃ I_ : Int → Heap → Prop, ∃ M_ : Int → Heap → Nat, I_ (0 : Int) H ∧ (∀ i : Int, ∀ H1 : Heap, I_ i H1 → F_ref21_items_r1 R sizes I_ M_ i H1))

theorem F_ref21_items_eq (R : Value → Heap → Prop) (sizes : Sl) (H : Heap) : wpF Try.prog Try.f41 [(3, .int .i64 0)] [] [(4, [3], [0])] [17] [.slice sizes.p sizes.n sizes.c] H R = F_ref21_items R sizes H := by kernel_rfl

theorem F_ref21_items_ok {R : Value → Heap → Prop} (sizes : Sl) {H : Heap} (h : F_ref21_items R sizes H) : CallsH Try.prog n_ref21_items #[.slice sizes.p sizes.n sizes.c] H R :=
  wpF_ok Try.func41 (F_ref21_items_eq R sizes H) h

/-! ### 42: platformfw/platformfwref21.merge -/

def F_ref21_merge_k1 (I_ : Sl → Sl → Heap → Prop) (M_ : Sl → Sl → Heap → Nat) (out : Sl) (left1 : Sl) (H2 : Heap) (H3 : Heap) (left2 : Sl) (n : Int) (x8 : Bool) (H8 : Heap) : Prop :=
  iteB x8 (
  0 ≤ n ∧ n < (out.n : Int) ∧ (unSome out.p (fun a5 =>
  ∃ x9 : Int, rd H8 ((a5.add (n.toNat * 2)).add 1) = some (.int .u64 x9) ∧ (
  ∃ x10 : Int, rd H8 (⟨H3.size, 0, none⟩ : Addr) = some (.int .u64 x10) ∧ (
  ∃ x11 : Int, rd H8 ((⟨H3.size, 0, none⟩ : Addr).add 1) = some (.int .u64 x11) ∧ (
  0 ≤ n ∧ n < (out.n : Int) ∧ (unSome out.p (fun a6 =>
  ∃ x12 : Int, rd H8 (a6.add (n.toNat * 2)) = some (.int .u64 x12) ∧ (
  0 ≤ n ∧ n < (out.n : Int) ∧ (unSome out.p (fun a7 =>
  okRow H8 ((a7.add (n.toNat * 2)).add 1) 1 ∧ (
  letH (wrs H8 ((a7.add (n.toNat * 2)).add 1) [.int .u64 (if (IntKind.u64.wrap ((IntKind.u64.wrap (x10 + x11)) - x12)) > x9 then (IntKind.u64.wrap ((IntKind.u64.wrap (x10 + x11)) - x12)) else x9)]) (fun H9 : Heap =>
  I_ out left2 H9 ∧ M_ out left2 H9 < M_ out left1 H2))))))))))))) (
  ∃ x13 : Int, rd H8 (⟨H3.size, 0, none⟩ : Addr) = some (.int .u64 x13) ∧ ∃ x14 : Int, rd H8 ((⟨H3.size, 0, none⟩ : Addr).add 1) = some (.int .u64 x14) ∧ (
  letH (H8.push (.cells #[.int .u64 x13, .int .u64 x14] t_api_Range (0, 0))) (fun H10 : Heap =>
  runH Try.prog (Builtin.append_ #[t_sl_api_Range, t_sl_api_Range] t_sl_api_Range #[.slice out.p out.n out.c, .slice (some (⟨H8.size, 0, none⟩ : Addr)) 1 1]) H10 (fun v3 H11 =>
  ∃ out1 : Sl, v3 = .slice out1.p out1.n out1.c ∧ (
  I_ out1 left2 H11 ∧ M_ out1 left2 H11 < M_ out left1 H2)))))

def F_ref21_merge_r2 (I_ : Sl → Sl → Heap → Prop) (M_ : Sl → Sl → Heap → Nat) (out : Sl) (left1 : Sl) (H2 : Heap) (I_1 : Int → Int → Heap → Prop) (M_1 : Int → Int → Heap → Nat) (k : Int) (i : Int) (H3 : Heap) : Prop :=
  iteB (decide (i < (left1.n : Int))) (
  0 ≤ i ∧ i < (left1.n : Int) ∧ (unSome left1.p (fun a =>
  ∃ x : Int, rd H3 (a.add (i.toNat * 2)) = some (.int .u64 x) ∧ (
  0 ≤ k ∧ k < (left1.n : Int) ∧ (unSome left1.p (fun a1 =>
  ∃ x1 : Int, rd H3 (a1.add (k.toNat * 2)) = some (.int .u64 x1) ∧ (
  iteB (decide (x < x1)) (
  letV (IntKind.i64.wrap (i + (1 : Int))) (fun i1 : Int =>
  I_1 i i1 H3 ∧ M_1 i i1 H3 < M_1 k i H3)) (
  letV (IntKind.i64.wrap (i + (1 : Int))) (fun i2 : Int =>
  I_1 k i2 H3 ∧ M_1 k i2 H3 < M_1 k i H3))))))))) (
  0 ≤ k ∧ k < (left1.n : Int) ∧ (unSome left1.p (fun a2 =>
  ∃ x2 : Int, rd H3 (a2.add (k.toNat * 2)) = some (.int .u64 x2) ∧ ∃ x3 : Int, rd H3 ((a2.add (k.toNat * 2)).add 1) = some (.int .u64 x3) ∧ (
  letH (H3.push (.cells #[.int .u64 (0 : Int), .int .u64 (0 : Int)] t_api_Range (0, 0))) (fun H4 : Heap =>
  okRow H4 (⟨H3.size, 0, none⟩ : Addr) 2 ∧ (
  letH (wrs H4 (⟨H3.size, 0, none⟩ : Addr) [.int .u64 x2, .int .u64 x3]) (fun H5 : Heap =>
  0 ≤ k ∧ k ≤ (left1.c : Int) ∧ (
  0 ≤ (IntKind.i64.wrap (k + (1 : Int))) ∧ (IntKind.i64.wrap (k + (1 : Int))) ≤ (left1.n : Int) ∧ (
  runH Try.prog (Builtin.append_ #[t_sl_api_Range, t_sl_api_Range] t_sl_api_Range #[.slice none 0 0, .slice (slP left1.p left1.c 0 2) (k.toNat - 0) (left1.c - 0)]) H5 (fun v1 H6 =>
  ∃ x4 : Sl, v1 = .slice x4.p x4.n x4.c ∧ (
  runH Try.prog (Builtin.append_ #[t_sl_api_Range, t_sl_api_Range] t_sl_api_Range #[.slice x4.p x4.n x4.c, .slice (slP left1.p left1.c ((IntKind.i64.wrap (k + (1 : Int))).toNat) 2) (left1.n - (IntKind.i64.wrap (k + (1 : Int))).toNat) (left1.c - (IntKind.i64.wrap (k + (1 : Int))).toNat)]) H6 (fun v2 H7 =>
  ∃ left2 : Sl, v2 = .slice left2.p left2.n left2.c ∧ (
  letV (IntKind.i64.wrap ((out.n : Int) - (1 : Int))) (fun n : Int =>
  ∃ J_ : Bool → Heap → Prop, (
  iteB (decide (n ≥ (0 : Int))) (
  ∃ x5 : Int, rd H7 (⟨H3.size, 0, none⟩ : Addr) = some (.int .u64 x5) ∧ (
  0 ≤ n ∧ n < (out.n : Int) ∧ (unSome out.p (fun a3 =>
  ∃ x6 : Int, rd H7 (a3.add (n.toNat * 2)) = some (.int .u64 x6) ∧ (
  0 ≤ n ∧ n < (out.n : Int) ∧ (unSome out.p (fun a4 =>
  ∃ x7 : Int, rd H7 ((a4.add (n.toNat * 2)).add 1) = some (.int .u64 x7) ∧ (
  J_ (decide (x5 ≤ (IntKind.u64.wrap (x6 + x7)))) H7)))))))) (
  J_ false H7)) ∧ (∀ x8 : Bool, ∀ H8 : Heap, J_ x8 H8 → F_ref21_merge_k1 I_ M_ out left1 H2 H3 left2 n x8 H8)))))))))))))))

def F_ref21_merge_r3 (R : Value → Heap → Prop) (I_ : Sl → Sl → Heap → Prop) (M_ : Sl → Sl → Heap → Nat) (out : Sl) (left1 : Sl) (H2 : Heap) : Prop :=
  iteB (decide ((left1.n : Int) > (0 : Int))) (
  ∃ I_1 : Int → Int → Heap → Prop, ∃ M_1 : Int → Int → Heap → Nat, I_1 (0 : Int) (1 : Int) H2 ∧ (∀ k : Int, ∀ i : Int, ∀ H3 : Heap, I_1 k i H3 → F_ref21_merge_r2 I_ M_ out left1 H2 I_1 M_1 k i H3)) (
  R (.slice out.p out.n out.c) H2)

def F_ref21_merge (R : Value → Heap → Prop) (l : Sl) (H : Heap) : Prop :=
  runH Try.prog (Builtin.append_ #[t_sl_api_Range, t_sl_api_Range] t_sl_api_Range #[.slice none 0 0, .slice l.p l.n l.c]) H (fun v H1 =>
  ∃ left : Sl, v = .slice left.p left.n left.c ∧ (
  ∃ I_ : Sl → Sl → Heap → Prop, ∃ M_ : Sl → Sl → Heap → Nat, I_ (Sl.mk none 0 0) left H1 ∧ (∀ out : Sl, ∀ left1 : Sl, ∀ H2 : Heap, I_ out left1 H2 → F_ref21_merge_r3 R I_ M_ out left1 H2)))

theorem F_ref21_merge_eq (R : Value → Heap → Prop) (l : Sl) (H : Heap) : wpF Try.prog Try.f42 [(3, .slice none 0 0), (4, .slice none 0 0), (5, .int .i64 0), (6, .int .i64 0), (65, .bool false)] [(14, [65], [3, 4, 7, 8])] [(3, [3, 4], []), (6, [5, 6], [3, 4])] [17] [.slice l.p l.n l.c] H R = F_ref21_merge R l H := by kernel_rfl

theorem F_ref21_merge_ok {R : Value → Heap → Prop} (l : Sl) {H : Heap} (h : F_ref21_merge R l H) : CallsH Try.prog n_ref21_merge #[.slice l.p l.n l.c] H R :=
  wpF_ok Try.func42 (F_ref21_merge_eq R l H) h

/-! ### 43: platformfw/platformfwref21.up -/

def F_ref21_up (R : Value → Heap → Prop) (a : Int) (k : Int) (H : Heap) : Prop :=
  0 ≤ (IntKind.u64.wrap k) ∧ (
  0 ≤ (IntKind.u64.wrap k) ∧ (
  0 ≤ (IntKind.u64.wrap k) ∧ (
  letV (IntKind.u64.wrap (((IntKind.u64.wrap ((IntKind.u64.wrap (a + (IntKind.u64.wrap ((1 : Int) * 2 ^ (min (IntKind.u64.wrap k).toNat IntKind.u64.bits))))) - (1 : Int))).fdiv (2 ^ (min (IntKind.u64.wrap k).toNat IntKind.u64.bits))) * 2 ^ (min (IntKind.u64.wrap k).toNat IntKind.u64.bits))) (fun x : Int =>
  R (.int .u64 x) H))))

theorem F_ref21_up_eq (R : Value → Heap → Prop) (a : Int) (k : Int) (H : Heap) : wpF Try.prog Try.f43 [] [] [] [17] [.int .u64 a, .int .i64 k] H R = F_ref21_up R a k H := by kernel_rfl

theorem F_ref21_up_ok {R : Value → Heap → Prop} (a : Int) (k : Int) {H : Heap} (h : F_ref21_up R a k H) : CallsH Try.prog n_ref21_up #[.int .u64 a, .int .i64 k] H R :=
  wpF_ok Try.func43 (F_ref21_up_eq R a k H) h

/-! ### 44: platformfw/platformfwref21.refusal -/

def F_ref21_refusal_r1 (R : Value → Heap → Prop) (H : Heap) (free : Sl) (sizes : Sl) (I_ : Int → Heap → Prop) (M_ : Int → Heap → Nat) (k : Int) (H2 : Heap) : Prop :=
  iteB (decide (k ≥ (0 : Int))) (
  CallsH Try.prog n_ref21_demand #[.slice sizes.p sizes.n sizes.c, .int .i64 k] H2 (fun v H3 =>
  ∃ n : Int, v = .int .u64 n ∧ (
  CallsH Try.prog n_ref21_Blocks #[.slice free.p free.n free.c, .int .i64 k] H3 (fun v1 H4 =>
  ∃ b : Int, v1 = .int .u64 b ∧ (
  0 ≤ (IntKind.u64.wrap k) ∧ (
  iteB (decide (n > (IntKind.u64.wrap (b * 2 ^ (min (IntKind.u64.wrap k).toNat IntKind.u64.bits))))) (
  okRow H4 (⟨H.size, 0, none⟩ : Addr) 4 ∧ (
  letH (wrs H4 (⟨H.size, 0, none⟩ : Addr) [.int .i64 (0 : Int), .int .i64 k, .int .u64 n, .int .u64 b]) (fun H5 : Heap =>
  ∃ r : Int, rd H5 (⟨H.size, 0, none⟩ : Addr) = some (.int .i64 r) ∧ ∃ r1 : Int, rd H5 ((⟨H.size, 0, none⟩ : Addr).add 1) = some (.int .i64 r1) ∧ ∃ r2 : Int, rd H5 ((⟨H.size, 0, none⟩ : Addr).add 2) = some (.int .u64 r2) ∧ ∃ r3 : Int, rd H5 ((⟨H.size, 0, none⟩ : Addr).add 3) = some (.int .u64 r3) ∧ (
  R (.agg #[.int .i64 r, .int .i64 r1, .int .u64 r2, .int .u64 r3]) H5)))) (
  letV (IntKind.i64.wrap (k - (1 : Int))) (fun k1 : Int =>
  I_ k1 H4 ∧ M_ k1 H4 < M_ k H2)))))))) (
  okRow H2 (⟨H.size, 0, none⟩ : Addr) 4 ∧ (
  letH (wrs H2 (⟨H.size, 0, none⟩ : Addr) [.int .i64 (0 : Int), .int .i64 (0 : Int), .int .u64 (0 : Int), .int .u64 (0 : Int)]) (fun H6 : Heap =>
  ∃ r4 : Int, rd H6 (⟨H.size, 0, none⟩ : Addr) = some (.int .i64 r4) ∧ ∃ r5 : Int, rd H6 ((⟨H.size, 0, none⟩ : Addr).add 1) = some (.int .i64 r5) ∧ ∃ r6 : Int, rd H6 ((⟨H.size, 0, none⟩ : Addr).add 2) = some (.int .u64 r6) ∧ ∃ r7 : Int, rd H6 ((⟨H.size, 0, none⟩ : Addr).add 3) = some (.int .u64 r7) ∧ (
  R (.agg #[.int .i64 r4, .int .i64 r5, .int .u64 r6, .int .u64 r7]) H6))))

def F_ref21_refusal (R : Value → Heap → Prop) (free : Sl) (sizes : Sl) (H : Heap) : Prop :=
  letH (H.push (.cells #[.int .i64 (0 : Int), .int .i64 (0 : Int), .int .u64 (0 : Int), .int .u64 (0 : Int)] t_api_Certificate (0, 0))) (fun H1 : Heap =>
  ∃ I_ : Int → Heap → Prop, ∃ M_ : Int → Heap → Nat, I_ (44 : Int) H1 ∧ (∀ k : Int, ∀ H2 : Heap, I_ k H2 → F_ref21_refusal_r1 R H free sizes I_ M_ k H2))

theorem F_ref21_refusal_eq (R : Value → Heap → Prop) (free : Sl) (sizes : Sl) (H : Heap) : wpF Try.prog Try.f44 [(5, .int .i64 0)] [] [(2, [5], [0, 1, 4])] [17] [.slice free.p free.n free.c, .slice sizes.p sizes.n sizes.c] H R = F_ref21_refusal R free sizes H := by kernel_rfl

theorem F_ref21_refusal_ok {R : Value → Heap → Prop} (free : Sl) (sizes : Sl) {H : Heap} (h : F_ref21_refusal R free sizes H) : CallsH Try.prog n_ref21_refusal #[.slice free.p free.n free.c, .slice sizes.p sizes.n sizes.c] H R :=
  wpF_ok Try.func44 (F_ref21_refusal_eq R free sizes H) h

/-! ### 45: platformfw/platformfwref21.remove -/

def F_ref21_remove_k1 (I_ : Sl → Int → Heap → Prop) (M_ : Sl → Int → Heap → Nat) (out : Sl) (i : Int) (H2 : Heap) (endv : Int) (stop : Int) (out3 : Sl) (H10 : Heap) : Prop :=
  iteB (decide (stop < endv)) (
  letH (H10.push (.cells #[.int .u64 stop, .int .u64 (IntKind.u64.wrap (endv - stop))] t_api_Range (0, 0))) (fun H11 : Heap =>
  runH Try.prog (Builtin.append_ #[t_sl_api_Range, t_sl_api_Range] t_sl_api_Range #[.slice out3.p out3.n out3.c, .slice (some (⟨H10.size, 0, none⟩ : Addr)) 1 1]) H11 (fun v2 H12 =>
  ∃ out4 : Sl, v2 = .slice out4.p out4.n out4.c ∧ (
  letV (IntKind.i64.wrap (i + (1 : Int))) (fun i2 : Int =>
  I_ out4 i2 H12 ∧ M_ out4 i2 H12 < M_ out i H2))))) (
  letV (IntKind.i64.wrap (i + (1 : Int))) (fun i3 : Int =>
  I_ out3 i3 H10 ∧ M_ out3 i3 H10 < M_ out i H2))

def F_ref21_remove_k2 (H : Heap) (I_ : Sl → Int → Heap → Prop) (M_ : Sl → Int → Heap → Nat) (out : Sl) (i : Int) (H2 : Heap) (endv : Int) (stop : Int) (x8 : Bool) (H5 : Heap) : Prop :=
  iteB x8 (
  ∃ x9 : Int, rd H5 (⟨H2.size, 0, none⟩ : Addr) = some (.int .u64 x9) ∧ ∃ x10 : Int, rd H5 ((⟨H2.size, 0, none⟩ : Addr).add 1) = some (.int .u64 x10) ∧ (
  letH (H5.push (.cells #[.int .u64 x9, .int .u64 x10] t_api_Range (0, 0))) (fun H6 : Heap =>
  runH Try.prog (Builtin.append_ #[t_sl_api_Range, t_sl_api_Range] t_sl_api_Range #[.slice out.p out.n out.c, .slice (some (⟨H5.size, 0, none⟩ : Addr)) 1 1]) H6 (fun v H7 =>
  ∃ out1 : Sl, v = .slice out1.p out1.n out1.c ∧ (
  letV (IntKind.i64.wrap (i + (1 : Int))) (fun i1 : Int =>
  I_ out1 i1 H7 ∧ M_ out1 i1 H7 < M_ out i H2)))))) (
  ∃ J_1 : Sl → Heap → Prop, (
  ∃ x11 : Int, rd H5 (⟨H2.size, 0, none⟩ : Addr) = some (.int .u64 x11) ∧ (
  ∃ x12 : Int, rd H5 (⟨H.size, 0, none⟩ : Addr) = some (.int .u64 x12) ∧ (
  iteB (decide (x11 < x12)) (
  ∃ x13 : Int, rd H5 (⟨H2.size, 0, none⟩ : Addr) = some (.int .u64 x13) ∧ (
  ∃ x14 : Int, rd H5 (⟨H.size, 0, none⟩ : Addr) = some (.int .u64 x14) ∧ (
  ∃ x15 : Int, rd H5 (⟨H2.size, 0, none⟩ : Addr) = some (.int .u64 x15) ∧ (
  letH (H5.push (.cells #[.int .u64 x13, .int .u64 (IntKind.u64.wrap (x14 - x15))] t_api_Range (0, 0))) (fun H8 : Heap =>
  runH Try.prog (Builtin.append_ #[t_sl_api_Range, t_sl_api_Range] t_sl_api_Range #[.slice out.p out.n out.c, .slice (some (⟨H5.size, 0, none⟩ : Addr)) 1 1]) H8 (fun v1 H9 =>
  ∃ out2 : Sl, v1 = .slice out2.p out2.n out2.c ∧ (
  J_1 out2 H9))))))) (
  J_1 out H5)))) ∧ (∀ out3 : Sl, ∀ H10 : Heap, J_1 out3 H10 → F_ref21_remove_k1 I_ M_ out i H2 endv stop out3 H10))

def F_ref21_remove_r3 (R : Value → Heap → Prop) (H : Heap) (free : Sl) (I_ : Sl → Int → Heap → Prop) (M_ : Sl → Int → Heap → Nat) (out : Sl) (i : Int) (H2 : Heap) : Prop :=
  iteB (decide (i < (free.n : Int))) (
  0 ≤ i ∧ i < (free.n : Int) ∧ (unSome free.p (fun a =>
  ∃ x : Int, rd H2 (a.add (i.toNat * 2)) = some (.int .u64 x) ∧ ∃ x1 : Int, rd H2 ((a.add (i.toNat * 2)).add 1) = some (.int .u64 x1) ∧ (
  letH (H2.push (.cells #[.int .u64 (0 : Int), .int .u64 (0 : Int)] t_api_Range (0, 0))) (fun H3 : Heap =>
  okRow H3 (⟨H2.size, 0, none⟩ : Addr) 2 ∧ (
  letH (wrs H3 (⟨H2.size, 0, none⟩ : Addr) [.int .u64 x, .int .u64 x1]) (fun H4 : Heap =>
  ∃ x2 : Int, rd H4 (⟨H2.size, 0, none⟩ : Addr) = some (.int .u64 x2) ∧ (
  ∃ x3 : Int, rd H4 ((⟨H2.size, 0, none⟩ : Addr).add 1) = some (.int .u64 x3) ∧ (
  ∃ x4 : Int, rd H4 (⟨H.size, 0, none⟩ : Addr) = some (.int .u64 x4) ∧ (
  ∃ x5 : Int, rd H4 ((⟨H.size, 0, none⟩ : Addr).add 1) = some (.int .u64 x5) ∧ (
  letV (IntKind.u64.wrap (x2 + x3)) (fun endv : Int =>
  letV (IntKind.u64.wrap (x4 + x5)) (fun stop : Int =>
  ∃ J_ : Bool → Heap → Prop, (
  ∃ x6 : Int, rd H4 (⟨H.size, 0, none⟩ : Addr) = some (.int .u64 x6) ∧ (
  iteB (decide (x6 ≥ endv)) (
  J_ true H4) (
  ∃ x7 : Int, rd H4 (⟨H2.size, 0, none⟩ : Addr) = some (.int .u64 x7) ∧ (
  J_ (decide (stop ≤ x7)) H4)))) ∧ (∀ x8 : Bool, ∀ H5 : Heap, J_ x8 H5 → F_ref21_remove_k2 H I_ M_ out i H2 endv stop x8 H5)))))))))))))) (
  R (.slice out.p out.n out.c) H2)

def F_ref21_remove (R : Value → Heap → Prop) (free : Sl) (x_0 : Int) (x_1 : Int) (H : Heap) : Prop :=
  letH (H.push (.cells #[.int .u64 x_0, .int .u64 x_1] t_api_Range (0, 0))) (fun H1 : Heap =>
  ∃ I_ : Sl → Int → Heap → Prop, ∃ M_ : Sl → Int → Heap → Nat, I_ (Sl.mk none 0 0) (0 : Int) H1 ∧ (∀ out : Sl, ∀ i : Int, ∀ H2 : Heap, I_ out i H2 → F_ref21_remove_r3 R H free I_ M_ out i H2))

theorem F_ref21_remove_eq (R : Value → Heap → Prop) (free : Sl) (x_0 : Int) (x_1 : Int) (H : Heap) : wpF Try.prog Try.f45 [(5, .slice none 0 0), (6, .int .i64 0), (39, .bool false)] [(8, [39], [0, 3, 5, 6, 7, 8, 9]), (11, [5], [0, 3, 6, 8, 9])] [(3, [5, 6], [0, 3])] [17] [.slice free.p free.n free.c, .agg #[.int .u64 x_0, .int .u64 x_1]] H R = F_ref21_remove R free x_0 x_1 H := by kernel_rfl

theorem F_ref21_remove_ok {R : Value → Heap → Prop} (free : Sl) (x_0 : Int) (x_1 : Int) {H : Heap} (h : F_ref21_remove R free x_0 x_1 H) : CallsH Try.prog n_ref21_remove #[.slice free.p free.n free.c, .agg #[.int .u64 x_0, .int .u64 x_1]] H R :=
  wpF_ok Try.func45 (F_ref21_remove_eq R free x_0 x_1 H) h

/-! ### 46: platformfw/allocate.demand -/

def F_allocate_demand_r1 (R : Value → Heap → Prop) (sizes : Sl) (k : Int) (I_ : Int → Int → Heap → Prop) (M_ : Int → Int → Heap → Nat) (sum : Int) (x : Int) (H1 : Heap) : Prop :=
  iteB (decide (x < (sizes.n : Int))) (
  0 ≤ x ∧ x < (sizes.n : Int) ∧ (unSome sizes.p (fun a =>
  ∃ size : Int, rd H1 (a.add (x.toNat * 1)) = some (.int .i64 size) ∧ (
  iteB (decide (size ≥ k)) (
  0 ≤ size ∧ (
  letV (IntKind.u64.wrap (sum + (IntKind.u64.wrap ((1 : Int) * 2 ^ (min size.toNat IntKind.u64.bits))))) (fun sum1 : Int =>
  I_ sum1 (IntKind.i64.wrap (x + (1 : Int))) H1 ∧ M_ sum1 (IntKind.i64.wrap (x + (1 : Int))) H1 < M_ sum x H1))) (
  I_ sum (IntKind.i64.wrap (x + (1 : Int))) H1 ∧ M_ sum (IntKind.i64.wrap (x + (1 : Int))) H1 < M_ sum x H1))))) (
  R (.int .u64 sum) H1)

def F_allocate_demand (R : Value → Heap → Prop) (sizes : Sl) (k : Int) (H : Heap) : Prop :=
  ∃ I_ : Int → Int → Heap → Prop, ∃ M_ : Int → Int → Heap → Nat, I_ (0 : Int) (0 : Int) H ∧ (∀ sum : Int, ∀ x : Int, ∀ H1 : Heap, I_ sum x H1 → F_allocate_demand_r1 R sizes k I_ M_ sum x H1)

theorem F_allocate_demand_eq (R : Value → Heap → Prop) (sizes : Sl) (k : Int) (H : Heap) : wpF Try.prog Try.f46 [(5, .int .u64 0), (10, .int .i64 0)] [] [(3, [5, 10], [1, 8, 9])] [17] [.slice sizes.p sizes.n sizes.c, .int .i64 k] H R = F_allocate_demand R sizes k H := by kernel_rfl

theorem F_allocate_demand_ok {R : Value → Heap → Prop} (sizes : Sl) (k : Int) {H : Heap} (h : F_allocate_demand R sizes k H) : CallsH Try.prog n_allocate_demand #[.slice sizes.p sizes.n sizes.c, .int .i64 k] H R :=
  wpF_ok Try.func46 (F_allocate_demand_eq R sizes k H) h

/-! ### 47: platformfw/platformfwref21.demand -/

def F_ref21_demand_r1 (R : Value → Heap → Prop) (sizes : Sl) (k : Int) (I_ : Int → Int → Heap → Prop) (M_ : Int → Int → Heap → Nat) (n : Int) (i : Int) (H1 : Heap) : Prop :=
  iteB (decide (i < (sizes.n : Int))) (
  0 ≤ i ∧ i < (sizes.n : Int) ∧ (unSome sizes.p (fun a =>
  ∃ x : Int, rd H1 (a.add (i.toNat * 1)) = some (.int .i64 x) ∧ (
  iteB (decide (x ≥ k)) (
  0 ≤ i ∧ i < (sizes.n : Int) ∧ (unSome sizes.p (fun a1 =>
  ∃ x1 : Int, rd H1 (a1.add (i.toNat * 1)) = some (.int .i64 x1) ∧ (
  0 ≤ (IntKind.u64.wrap x1) ∧ (
  letV (IntKind.u64.wrap (n + (IntKind.u64.wrap ((1 : Int) * 2 ^ (min (IntKind.u64.wrap x1).toNat IntKind.u64.bits))))) (fun n1 : Int =>
  letV (IntKind.i64.wrap (i + (1 : Int))) (fun i1 : Int =>
  I_ n1 i1 H1 ∧ M_ n1 i1 H1 < M_ n i H1))))))) (
  letV (IntKind.i64.wrap (i + (1 : Int))) (fun i2 : Int =>
  I_ n i2 H1 ∧ M_ n i2 H1 < M_ n i H1)))))) (
  R (.int .u64 n) H1)

def F_ref21_demand (R : Value → Heap → Prop) (sizes : Sl) (k : Int) (H : Heap) : Prop :=
  ∃ I_ : Int → Int → Heap → Prop, ∃ M_ : Int → Int → Heap → Nat, I_ (0 : Int) (0 : Int) H ∧ (∀ n : Int, ∀ i : Int, ∀ H1 : Heap, I_ n i H1 → F_ref21_demand_r1 R sizes k I_ M_ n i H1)

theorem F_ref21_demand_eq (R : Value → Heap → Prop) (sizes : Sl) (k : Int) (H : Heap) : wpF Try.prog Try.f47 [(5, .int .u64 0), (6, .int .i64 0)] [] [(3, [5, 6], [0, 1])] [17] [.slice sizes.p sizes.n sizes.c, .int .i64 k] H R = F_ref21_demand R sizes k H := by kernel_rfl

theorem F_ref21_demand_ok {R : Value → Heap → Prop} (sizes : Sl) (k : Int) {H : Heap} (h : F_ref21_demand R sizes k H) : CallsH Try.prog n_ref21_demand #[.slice sizes.p sizes.n sizes.c, .int .i64 k] H R :=
  wpF_ok Try.func47 (F_ref21_demand_eq R sizes k H) h

/-! ### 48: platformfw/allocate.validRanges -/

def F_allocate_validRanges (R : Value → Heap → Prop) (l : Sl) (H : Heap) : Prop :=
  iteB (decide ((l.n : Int) ≤ (1024 : Int))) (
  CallsH Try.prog n_allocate_within #[.slice l.p l.n l.c, .int .u64 (0 : Int), .int .u64 (4503599627370496 : Int)] H (fun v H1 =>
  ∃ x : Bool, v = .bool x ∧ (
  R (.bool x) H1))) (
  R (.bool false) H)

theorem F_allocate_validRanges_eq (R : Value → Heap → Prop) (l : Sl) (H : Heap) : wpF Try.prog Try.f48 [] [] [] [17] [.slice l.p l.n l.c] H R = F_allocate_validRanges R l H := by kernel_rfl

theorem F_allocate_validRanges_ok {R : Value → Heap → Prop} (l : Sl) {H : Heap} (h : F_allocate_validRanges R l H) : CallsH Try.prog n_allocate_validRanges #[.slice l.p l.n l.c] H R :=
  wpF_ok Try.func48 (F_allocate_validRanges_eq R l H) h

/-! ### 49: platformfw/allocate.countBlocks -/

def F_allocate_countBlocks_r1 (R : Value → Heap → Prop) (l : Sl) (k : Int) (size : Int) (I_ : Int → Int → Heap → Prop) (M_ : Int → Int → Heap → Nat) (count : Int) (x : Int) (H1 : Heap) : Prop :=
  iteB (decide (x < (l.n : Int))) (
  0 ≤ x ∧ x < (l.n : Int) ∧ (unSome l.p (fun a =>
  ∃ x1 : Int, rd H1 (a.add (x.toNat * 2)) = some (.int .u64 x1) ∧ ∃ x2 : Int, rd H1 ((a.add (x.toNat * 2)).add 1) = some (.int .u64 x2) ∧ (
  letH (H1.push (.cells #[.int .u64 (0 : Int), .int .u64 (0 : Int)] t_api_Range (0, 0))) (fun H2 : Heap =>
  okRow H2 (⟨H1.size, 0, none⟩ : Addr) 2 ∧ (
  letH (wrs H2 (⟨H1.size, 0, none⟩ : Addr) [.int .u64 x1, .int .u64 x2]) (fun H3 : Heap =>
  ∃ x3 : Int, rd H3 (⟨H1.size, 0, none⟩ : Addr) = some (.int .u64 x3) ∧ (
  0 ≤ k ∧ (
  letV ((IntKind.u64.wrap ((IntKind.u64.wrap (x3 + size)) - (1 : Int))).fdiv (2 ^ (min k.toNat IntKind.u64.bits))) (fun first : Int =>
  ∃ x4 : Int, rd H3 (⟨H1.size, 0, none⟩ : Addr) = some (.int .u64 x4) ∧ (
  ∃ x5 : Int, rd H3 ((⟨H1.size, 0, none⟩ : Addr).add 1) = some (.int .u64 x5) ∧ (
  0 ≤ k ∧ (
  letV ((IntKind.u64.wrap (x4 + x5)).fdiv (2 ^ (min k.toNat IntKind.u64.bits))) (fun last : Int =>
  iteB (decide (last > first)) (
  letV (IntKind.u64.wrap (count + (IntKind.u64.wrap (last - first)))) (fun count1 : Int =>
  I_ count1 (IntKind.i64.wrap (x + (1 : Int))) H3 ∧ M_ count1 (IntKind.i64.wrap (x + (1 : Int))) H3 < M_ count x H1)) (
  I_ count (IntKind.i64.wrap (x + (1 : Int))) H3 ∧ M_ count (IntKind.i64.wrap (x + (1 : Int))) H3 < M_ count x H1))))))))))))))) (
  R (.int .u64 count) H1)

def F_allocate_countBlocks (R : Value → Heap → Prop) (l : Sl) (k : Int) (H : Heap) : Prop :=
  0 ≤ k ∧ (
  letV (IntKind.u64.wrap ((1 : Int) * 2 ^ (min k.toNat IntKind.u64.bits))) (fun size : Int =>
  ∃ I_ : Int → Int → Heap → Prop, ∃ M_ : Int → Int → Heap → Nat, I_ (0 : Int) (0 : Int) H ∧ (∀ count : Int, ∀ x : Int, ∀ H1 : Heap, I_ count x H1 → F_allocate_countBlocks_r1 R l k size I_ M_ count x H1)))

theorem F_allocate_countBlocks_eq (R : Value → Heap → Prop) (l : Sl) (k : Int) (H : Heap) : wpF Try.prog Try.f49 [(5, .int .u64 0), (15, .int .i64 0)] [] [(4, [5, 15], [1, 6, 13, 14])] [17] [.slice l.p l.n l.c, .int .i64 k] H R = F_allocate_countBlocks R l k H := by kernel_rfl

theorem F_allocate_countBlocks_ok {R : Value → Heap → Prop} (l : Sl) (k : Int) {H : Heap} (h : F_allocate_countBlocks R l k H) : CallsH Try.prog n_allocate_countBlocks #[.slice l.p l.n l.c, .int .i64 k] H R :=
  wpF_ok Try.func49 (F_allocate_countBlocks_eq R l k H) h

/-! ### 50: platformfw/platformfwgen.bars -/

def F_gen_bars_k1 (n : Int) (J_ : Int → Heap → Prop) (x2 : Bool) (H2 : Heap) : Prop :=
  iteB x2 (
  letV (IntKind.i64.wrap ((8 : Int) + (n.tmod (16 : Int)))) (fun n2 : Int =>
  J_ n2 H2)) (
  letV (IntKind.i64.wrap ((30 : Int) + (n.tmod (4 : Int)))) (fun n3 : Int =>
  J_ n3 H2))

def F_gen_bars_k2 (most : Int) (I_ : Sl → Int → Heap → Prop) (M_ : Sl → Int → Heap → Nat) (out : Sl) (i : Int) (H1 : Heap) (k : Int) (n4 : Int) (H3 : Heap) : Prop :=
  iteB (decide (k < (3 : Int))) (
  letH (H3.push (.cells #[.int .i64 k, .int .i64 n4] t_api_Bar (0, 0))) (fun H4 : Heap =>
  runH Try.prog (Builtin.append_ #[t_sl_api_Bar, t_sl_api_Bar] t_sl_api_Bar #[.slice out.p out.n out.c, .slice (some (⟨H3.size, 0, none⟩ : Addr)) 1 1]) H4 (fun v2 H5 =>
  ∃ out1 : Sl, v2 = .slice out1.p out1.n out1.c ∧ (
  letV (IntKind.i64.wrap (i + (1 : Int))) (fun i1 : Int =>
  I_ out1 i1 H5 ∧ M_ out1 i1 H5 < M_ out i H1))))) (
  iteB (decide ((IntKind.i64.wrap ((out.n : Int) + (2 : Int))) ≤ most)) (
  letH (H3.push (.cells #[.int .i64 k, .int .i64 n4, .int .i64 (0 : Int), .int .i64 (0 : Int)] t_api_Bar (0, 0))) (fun H6 : Heap =>
  runH Try.prog (Builtin.append_ #[t_sl_api_Bar, t_sl_api_Bar] t_sl_api_Bar #[.slice out.p out.n out.c, .slice (some (⟨H3.size, 0, none⟩ : Addr)) 2 2]) H6 (fun v3 H7 =>
  ∃ out2 : Sl, v3 = .slice out2.p out2.n out2.c ∧ (
  letV (IntKind.i64.wrap (i + (1 : Int))) (fun i2 : Int =>
  I_ out2 i2 H7 ∧ M_ out2 i2 H7 < M_ out i H1))))) (
  letV (IntKind.i64.wrap (i + (1 : Int))) (fun i3 : Int =>
  I_ out i3 H3 ∧ M_ out i3 H3 < M_ out i H1)))

def F_gen_bars_r3 (R : Value → Heap → Prop) (l : Sl) (most : Int) (I_ : Sl → Int → Heap → Prop) (M_ : Sl → Int → Heap → Nat) (out : Sl) (i : Int) (H1 : Heap) : Prop :=
  iteB (decide (i < (l.n : Int))) (
  iteB (decide ((out.n : Int) < most)) (
  0 ≤ i ∧ i < (l.n : Int) ∧ (unSome l.p (fun a =>
  ∃ x : Int, rd H1 (a.add (i.toNat * 2)) = some (.int .i64 x) ∧ (
  CallsP Try.prog n_help_Mod #[.int .i64 x, .int .i64 (5 : Int)] (fun v =>
  ∃ k : Int, v = .int .i64 k ∧ (
  0 ≤ i ∧ i < (l.n : Int) ∧ (unSome l.p (fun a1 =>
  ∃ x1 : Int, rd H1 ((a1.add (i.toNat * 2)).add 1) = some (.int .i64 x1) ∧ (
  CallsP Try.prog n_help_Mod #[.int .i64 x1, .int .i64 (30 : Int)] (fun v1 =>
  ∃ n : Int, v1 = .int .i64 n ∧ (
  ∃ J_ : Int → Heap → Prop, (
  iteB (k == (0 : Int)) (
  J_ (0 : Int) H1) (
  iteB (k == (1 : Int)) (
  letV (IntKind.i64.wrap ((2 : Int) + (n.tmod (7 : Int)))) (fun n1 : Int =>
  J_ n1 H1)) (
  ∃ J_1 : Bool → Heap → Prop, (
  iteB (k == (2 : Int)) (
  J_1 true H1) (
  J_1 ((n.tmod (8 : Int)) != (7 : Int)) H1)) ∧ (∀ x2 : Bool, ∀ H2 : Heap, J_1 x2 H2 → F_gen_bars_k1 n J_ x2 H2)))) ∧ (∀ n4 : Int, ∀ H3 : Heap, J_ n4 H3 → F_gen_bars_k2 most I_ M_ out i H1 k n4 H3)))))))))))) (
  R (.slice out.p out.n out.c) H1)) (
  R (.slice out.p out.n out.c) H1)

def F_gen_bars (R : Value → Heap → Prop) (l : Sl) (most : Int) (H : Heap) : Prop :=
  ∃ I_ : Sl → Int → Heap → Prop, ∃ M_ : Sl → Int → Heap → Nat, I_ (Sl.mk none 0 0) (0 : Int) H ∧ (∀ out : Sl, ∀ i : Int, ∀ H1 : Heap, I_ out i H1 → F_gen_bars_r3 R l most I_ M_ out i H1)

theorem F_gen_bars_eq (R : Value → Heap → Prop) (l : Sl) (most : Int) (H : Heap) : wpF Try.prog Try.f50 [(5, .slice none 0 0), (6, .int .i64 0), (8, .int .i64 0), (45, .bool false)] [(13, [8], [0, 1, 5, 6, 7]), (12, [45], [0, 1, 5, 6, 7, 8])] [(3, [5, 6], [0, 1])] [17] [.slice l.p l.n l.c, .int .i64 most] H R = F_gen_bars R l most H := by kernel_rfl

theorem F_gen_bars_ok {R : Value → Heap → Prop} (l : Sl) (most : Int) {H : Heap} (h : F_gen_bars R l most H) : CallsH Try.prog n_gen_bars #[.slice l.p l.n l.c, .int .i64 most] H R :=
  wpF_ok Try.func50 (F_gen_bars_eq R l most H) h

/-! ### 51: platformfw/platformfwgen.ranges -/

def F_gen_ranges_r1 (R : Value → Heap → Prop) (l : Sl) (fromv : Int) (unit : Int) (most : Int) (n : Int) (I_ : Sl → Int → Heap → Prop) (M_ : Sl → Int → Heap → Nat) (out : Sl) (i : Int) (H1 : Heap) : Prop :=
  iteB (decide (i < (l.n : Int))) (
  iteB (decide (i < most)) (
  0 ≤ i ∧ i < (l.n : Int) ∧ (unSome l.p (fun a =>
  ∃ x : Int, rd H1 (a.add (i.toNat * 2)) = some (.int .u64 x) ∧ (
  n ≠ 0 ∧ (
  0 ≤ i ∧ i < (l.n : Int) ∧ (unSome l.p (fun a1 =>
  ∃ x1 : Int, rd H1 ((a1.add (i.toNat * 2)).add 1) = some (.int .u64 x1) ∧ (
  (IntKind.u64.wrap (n - (x.tmod n))) ≠ 0 ∧ (
  letH (H1.push (.cells #[.int .u64 (IntKind.u64.wrap (fromv + (IntKind.u64.wrap ((x.tmod n) * unit)))), .int .u64 (IntKind.u64.wrap ((IntKind.u64.wrap ((1 : Int) + (x1.tmod (IntKind.u64.wrap (n - (x.tmod n)))))) * unit))] t_api_Range (0, 0))) (fun H2 : Heap =>
  runH Try.prog (Builtin.append_ #[t_sl_api_Range, t_sl_api_Range] t_sl_api_Range #[.slice out.p out.n out.c, .slice (some (⟨H1.size, 0, none⟩ : Addr)) 1 1]) H2 (fun v H3 =>
  ∃ out1 : Sl, v = .slice out1.p out1.n out1.c ∧ (
  letV (IntKind.i64.wrap (i + (1 : Int))) (fun i1 : Int =>
  I_ out1 i1 H3 ∧ M_ out1 i1 H3 < M_ out i H1))))))))))))) (
  R (.slice out.p out.n out.c) H1)) (
  R (.slice out.p out.n out.c) H1)

def F_gen_ranges (R : Value → Heap → Prop) (l : Sl) (fromv : Int) (to : Int) (unit : Int) (most : Int) (H : Heap) : Prop :=
  unit ≠ 0 ∧ (
  letV (IntKind.u64.wrap ((IntKind.u64.wrap (to - fromv)).tdiv unit)) (fun n : Int =>
  ∃ I_ : Sl → Int → Heap → Prop, ∃ M_ : Sl → Int → Heap → Nat, I_ (Sl.mk none 0 0) (0 : Int) H ∧ (∀ out : Sl, ∀ i : Int, ∀ H1 : Heap, I_ out i H1 → F_gen_ranges_r1 R l fromv unit most n I_ M_ out i H1)))

theorem F_gen_ranges_eq (R : Value → Heap → Prop) (l : Sl) (fromv : Int) (to : Int) (unit : Int) (most : Int) (H : Heap) : wpF Try.prog Try.f51 [(11, .slice none 0 0), (13, .int .i64 0)] [] [(4, [11, 13], [0, 1, 3, 4, 12])] [17] [.slice l.p l.n l.c, .int .u64 fromv, .int .u64 to, .int .u64 unit, .int .i64 most] H R = F_gen_ranges R l fromv to unit most H := by kernel_rfl

theorem F_gen_ranges_ok {R : Value → Heap → Prop} (l : Sl) (fromv : Int) (to : Int) (unit : Int) (most : Int) {H : Heap} (h : F_gen_ranges R l fromv to unit most H) : CallsH Try.prog n_gen_ranges #[.slice l.p l.n l.c, .int .u64 fromv, .int .u64 to, .int .u64 unit, .int .i64 most] H R :=
  wpF_ok Try.func51 (F_gen_ranges_eq R l fromv to unit most H) h

/-! ### 52: platformfw/enumerate.Valid -/

def F_enumerate_Valid_k1 (R : Value → Heap → Prop) (H : Heap) (I_ : Int → Heap → Prop) (M_ : Int → Heap → Nat) (x : Int) (H2 : Heap) (H6 : Heap) : Prop :=
  ∃ x29 : Int, rd H6 (⟨H2.size, 0, none⟩ : Addr) = some (.int .i64 x29) ∧ (
  ∃ x30 : Int, rd H6 ((⟨H2.size, 0, none⟩ : Addr).add 1) = some (.int .i64 x30) ∧ (
  letH (H6.push (.cells #[.int .i64 (0 : Int), .int .i64 (0 : Int)] t_enumerate_place (0, 0))) (fun H7 : Heap =>
  okRow H7 (⟨H6.size, 0, none⟩ : Addr) 2 ∧ (
  letH (wrs H7 (⟨H6.size, 0, none⟩ : Addr) [.int .i64 x29, .int .i64 x30]) (fun H8 : Heap =>
  ∃ x31 : Int, rd H8 (⟨H6.size, 0, none⟩ : Addr) = some (.int .i64 x31) ∧ ∃ x32 : Int, rd H8 ((⟨H6.size, 0, none⟩ : Addr).add 1) = some (.int .i64 x32) ∧ (
  runH Try.prog (Instr.lookup t_map_enumerate_place_bool (.map (some H.size)) (.agg #[.int .i64 x31, .int .i64 x32]) false) H8 (fun v1 H9 =>
  ∃ x33 : Bool, v1 = .bool x33 ∧ (
  iteB x33 (
  R (.bool false) H9) (
  ∃ x34 : Int, rd H9 (⟨H6.size, 0, none⟩ : Addr) = some (.int .i64 x34) ∧ ∃ x35 : Int, rd H9 ((⟨H6.size, 0, none⟩ : Addr).add 1) = some (.int .i64 x35) ∧ (
  runH Try.prog (Instr.mapUpdate t_map_enumerate_place_bool (.map (some H.size)) (.agg #[.int .i64 x34, .int .i64 x35]) (.bool true)) H9 (fun _ H10 =>
  I_ (IntKind.i64.wrap (x + (1 : Int))) H10 ∧ M_ (IntKind.i64.wrap (x + (1 : Int))) H10 < M_ x H2)))))))))))

def F_enumerate_Valid_r2 (R : Value → Heap → Prop) (H : Heap) (l : Sl) (I_ : Int → Heap → Prop) (M_ : Int → Heap → Nat) (x : Int) (H2 : Heap) : Prop :=
  iteB (decide (x < (l.n : Int))) (
  0 ≤ x ∧ x < (l.n : Int) ∧ (unSome l.p (fun a =>
  ∃ x1 : Int, rd H2 (a.add (x.toNat * 11)) = some (.int .i64 x1) ∧ ∃ x2 : Int, rd H2 ((a.add (x.toNat * 11)).add 1) = some (.int .i64 x2) ∧ ∃ x3 : Int, rd H2 ((a.add (x.toNat * 11)).add 2) = some (.int .i64 x3) ∧ ∃ x4 : Int, rd H2 ((a.add (x.toNat * 11)).add 3) = some (.int .i64 x4) ∧ ∃ x5 : Bool, rd H2 ((a.add (x.toNat * 11)).add 4) = some (.bool x5) ∧ ∃ x6 : Bool, rd H2 ((a.add (x.toNat * 11)).add 5) = some (.bool x6) ∧ ∃ x7 : Bool, rd H2 ((a.add (x.toNat * 11)).add 6) = some (.bool x7) ∧ ∃ x8 : Int, rd H2 ((a.add (x.toNat * 11)).add 7) = some (.int .i64 x8) ∧ ∃ x9 : Int, rd H2 ((a.add (x.toNat * 11)).add 8) = some (.int .i64 x9) ∧ ∃ x10 : Int, rd H2 ((a.add (x.toNat * 11)).add 9) = some (.int .i64 x10) ∧ ∃ x11 : Sl, rd H2 ((a.add (x.toNat * 11)).add 10) = some (.slice x11.p x11.n x11.c) ∧ (
  letH (H2.push (.cells #[.int .i64 (0 : Int), .int .i64 (0 : Int), .int .i64 (0 : Int), .int .i64 (0 : Int), .bool false, .bool false, .bool false, .int .i64 (0 : Int), .int .i64 (0 : Int), .int .i64 (0 : Int), .slice none 0 0] t_api_Function (0, 0))) (fun H3 : Heap =>
  okRow H3 (⟨H2.size, 0, none⟩ : Addr) 11 ∧ (
  letH (wrs H3 (⟨H2.size, 0, none⟩ : Addr) [.int .i64 x1, .int .i64 x2, .int .i64 x3, .int .i64 x4, .bool x5, .bool x6, .bool x7, .int .i64 x8, .int .i64 x9, .int .i64 x10, .slice x11.p x11.n x11.c]) (fun H4 : Heap =>
  ∃ x12 : Int, rd H4 (⟨H2.size, 0, none⟩ : Addr) = some (.int .i64 x12) ∧ ∃ x13 : Int, rd H4 ((⟨H2.size, 0, none⟩ : Addr).add 1) = some (.int .i64 x13) ∧ ∃ x14 : Int, rd H4 ((⟨H2.size, 0, none⟩ : Addr).add 2) = some (.int .i64 x14) ∧ ∃ x15 : Int, rd H4 ((⟨H2.size, 0, none⟩ : Addr).add 3) = some (.int .i64 x15) ∧ ∃ x16 : Bool, rd H4 ((⟨H2.size, 0, none⟩ : Addr).add 4) = some (.bool x16) ∧ ∃ x17 : Bool, rd H4 ((⟨H2.size, 0, none⟩ : Addr).add 5) = some (.bool x17) ∧ ∃ x18 : Bool, rd H4 ((⟨H2.size, 0, none⟩ : Addr).add 6) = some (.bool x18) ∧ ∃ x19 : Int, rd H4 ((⟨H2.size, 0, none⟩ : Addr).add 7) = some (.int .i64 x19) ∧ ∃ x20 : Int, rd H4 ((⟨H2.size, 0, none⟩ : Addr).add 8) = some (.int .i64 x20) ∧ ∃ x21 : Int, rd H4 ((⟨H2.size, 0, none⟩ : Addr).add 9) = some (.int .i64 x21) ∧ ∃ x22 : Sl, rd H4 ((⟨H2.size, 0, none⟩ : Addr).add 10) = some (.slice x22.p x22.n x22.c) ∧ (
  CallsH Try.prog n_pciconf_Valid #[.agg #[.int .i64 x12, .int .i64 x13, .int .i64 x14, .int .i64 x15, .bool x16, .bool x17, .bool x18, .int .i64 x19, .int .i64 x20, .int .i64 x21, .slice x22.p x22.n x22.c]] H4 (fun v H5 =>
  ∃ x23 : Bool, v = .bool x23 ∧ (
  iteB (!x23) (
  R (.bool false) H5) (
  ∃ x24 : Int, rd H5 (⟨H2.size, 0, none⟩ : Addr) = some (.int .i64 x24) ∧ (
  iteB (decide (x24 < (-1 : Int))) (
  R (.bool false) H5) (
  ∃ x25 : Int, rd H5 (⟨H2.size, 0, none⟩ : Addr) = some (.int .i64 x25) ∧ (
  iteB (decide (x25 ≥ x)) (
  R (.bool false) H5) (
  ∃ J_ : Heap → Prop, (
  ∃ x26 : Int, rd H5 (⟨H2.size, 0, none⟩ : Addr) = some (.int .i64 x26) ∧ (
  iteB (decide (x26 ≥ (0 : Int))) (
  ∃ x27 : Int, rd H5 (⟨H2.size, 0, none⟩ : Addr) = some (.int .i64 x27) ∧ (
  0 ≤ x27 ∧ x27 < (l.n : Int) ∧ (unSome l.p (fun a1 =>
  ∃ x28 : Bool, rd H5 ((a1.add (x27.toNat * 11)).add 4) = some (.bool x28) ∧ (
  iteB (!x28) (
  R (.bool false) H5) (
  J_ H5)))))) (
  J_ H5))) ∧ (∀ H6 : Heap, J_ H6 → F_enumerate_Valid_k1 R H I_ M_ x H2 H6)))))))))))))))) (
  R (.bool true) H2)

def F_enumerate_Valid (R : Value → Heap → Prop) (l : Sl) (H : Heap) : Prop :=
  iteB (decide ((l.n : Int) > (64 : Int))) (
  R (.bool false) H) (
  letH (H.push (.map #[] 0)) (fun H1 : Heap =>
  ∃ I_ : Int → Heap → Prop, ∃ M_ : Int → Heap → Nat, I_ (0 : Int) H1 ∧ (∀ x : Int, ∀ H2 : Heap, I_ x H2 → F_enumerate_Valid_r2 R H l I_ M_ x H2)))

theorem F_enumerate_Valid_eq (R : Value → Heap → Prop) (l : Sl) (H : Heap) : wpF Try.prog Try.f52 [(13, .int .i64 0)] [(11, [], [0, 3, 5, 11, 12, 13])] [(5, [13], [0, 3, 11, 12])] [17] [.slice l.p l.n l.c] H R = F_enumerate_Valid R l H := by kernel_rfl

theorem F_enumerate_Valid_ok {R : Value → Heap → Prop} (l : Sl) {H : Heap} (h : F_enumerate_Valid R l H) : CallsH Try.prog n_enumerate_Valid #[.slice l.p l.n l.c] H R :=
  wpF_ok Try.func52 (F_enumerate_Valid_eq R l H) h

/-! ### 53: platformfw/allocate.ValidHost -/

def F_allocate_ValidHost_r1 (R : Value → Heap → Prop) (H : Heap) (x19 : Sl) (I_1 : Int → Heap → Prop) (M_1 : Int → Heap → Nat) (x20 : Int) (H9 : Heap) : Prop :=
  iteB (decide (x20 < (x19.n : Int))) (
  0 ≤ x20 ∧ x20 < (x19.n : Int) ∧ (unSome x19.p (fun a =>
  ∃ x21 : Int, rd H9 (a.add (x20.toNat * 3)) = some (.int .i64 x21) ∧ ∃ x22 : Int, rd H9 ((a.add (x20.toNat * 3)).add 1) = some (.int .i64 x22) ∧ ∃ x23 : Int, rd H9 ((a.add (x20.toNat * 3)).add 2) = some (.int .i64 x23) ∧ (
  letH (H9.push (.cells #[.int .i64 (0 : Int), .int .i64 (0 : Int), .int .i64 (0 : Int)] t_api_Route (0, 0))) (fun H10 : Heap =>
  okRow H10 (⟨H9.size, 0, none⟩ : Addr) 3 ∧ (
  letH (wrs H10 (⟨H9.size, 0, none⟩ : Addr) [.int .i64 x21, .int .i64 x22, .int .i64 x23]) (fun H11 : Heap =>
  ∃ x24 : Int, rd H11 (⟨H9.size, 0, none⟩ : Addr) = some (.int .i64 x24) ∧ (
  iteB (decide (x24 < (0 : Int))) (
  R (.bool false) H11) (
  ∃ x25 : Int, rd H11 (⟨H9.size, 0, none⟩ : Addr) = some (.int .i64 x25) ∧ (
  iteB (decide (x25 > (31 : Int))) (
  R (.bool false) H11) (
  ∃ x26 : Int, rd H11 ((⟨H9.size, 0, none⟩ : Addr).add 1) = some (.int .i64 x26) ∧ (
  iteB (decide (x26 < (1 : Int))) (
  R (.bool false) H11) (
  ∃ x27 : Int, rd H11 ((⟨H9.size, 0, none⟩ : Addr).add 1) = some (.int .i64 x27) ∧ (
  iteB (decide (x27 > (4 : Int))) (
  R (.bool false) H11) (
  ∃ x28 : Int, rd H11 ((⟨H9.size, 0, none⟩ : Addr).add 2) = some (.int .i64 x28) ∧ (
  iteB (decide (x28 < (0 : Int))) (
  R (.bool false) H11) (
  ∃ x29 : Int, rd H11 ((⟨H9.size, 0, none⟩ : Addr).add 2) = some (.int .i64 x29) ∧ (
  ∃ x30 : Sl, rd H11 ((⟨H.size, 0, none⟩ : Addr).add 6) = some (.slice x30.p x30.n x30.c) ∧ (
  iteB (decide (x29 ≥ (x30.n : Int))) (
  R (.bool false) H11) (
  I_1 (IntKind.i64.wrap (x20 + (1 : Int))) H11 ∧ M_1 (IntKind.i64.wrap (x20 + (1 : Int))) H11 < M_1 x20 H9)))))))))))))))))))) (
  R (.bool true) H9)

def F_allocate_ValidHost_r2 (R : Value → Heap → Prop) (H : Heap) (H1 : Heap) (I_ : Int → Heap → Prop) (M_ : Int → Heap → Nat) (x7 : Int) (H3 : Heap) : Prop :=
  iteB (decide (x7 < (5 : Int))) (
  0 ≤ x7 ∧ x7 < (5 : Int) ∧ (∃ l : Sl, rd H3 ((⟨H1.size, 0, none⟩ : Addr).add (x7.toNat * 1)) = some (.slice l.p l.n l.c) ∧ (
  iteB (decide ((l.n : Int) > (16 : Int))) (
  R (.bool false) H3) (
  CallsH Try.prog n_allocate_validRanges #[.slice l.p l.n l.c] H3 (fun v H4 =>
  ∃ x8 : Bool, v = .bool x8 ∧ (
  iteB (!x8) (
  R (.bool false) H4) (
  I_ (IntKind.i64.wrap (x7 + (1 : Int))) H4 ∧ M_ (IntKind.i64.wrap (x7 + (1 : Int))) H4 < M_ x7 H3))))))) (
  ∃ x9 : Sl, rd H3 ((⟨H.size, 0, none⟩ : Addr).add 1) = some (.slice x9.p x9.n x9.c) ∧ (
  CallsH Try.prog n_allocate_within #[.slice x9.p x9.n x9.c, .int .u64 (0 : Int), .int .u64 (65536 : Int)] H3 (fun v1 H5 =>
  ∃ x10 : Bool, v1 = .bool x10 ∧ (
  iteB (!x10) (
  R (.bool false) H5) (
  ∃ x11 : Sl, rd H5 ((⟨H.size, 0, none⟩ : Addr).add 4) = some (.slice x11.p x11.n x11.c) ∧ (
  CallsH Try.prog n_allocate_within #[.slice x11.p x11.n x11.c, .int .u64 (0 : Int), .int .u64 (65536 : Int)] H5 (fun v2 H6 =>
  ∃ x12 : Bool, v2 = .bool x12 ∧ (
  iteB (!x12) (
  R (.bool false) H6) (
  ∃ x13 : Sl, rd H6 ((⟨H.size, 0, none⟩ : Addr).add 2) = some (.slice x13.p x13.n x13.c) ∧ (
  CallsH Try.prog n_allocate_within #[.slice x13.p x13.n x13.c, .int .u64 (0 : Int), .int .u64 (4294967296 : Int)] H6 (fun v3 H7 =>
  ∃ x14 : Bool, v3 = .bool x14 ∧ (
  iteB (!x14) (
  R (.bool false) H7) (
  ∃ x15 : Sl, rd H7 ((⟨H.size, 0, none⟩ : Addr).add 3) = some (.slice x15.p x15.n x15.c) ∧ (
  CallsH Try.prog n_allocate_within #[.slice x15.p x15.n x15.c, .int .u64 (4294967296 : Int), .int .u64 (4503599627370496 : Int)] H7 (fun v4 H8 =>
  ∃ x16 : Bool, v4 = .bool x16 ∧ (
  iteB (!x16) (
  R (.bool false) H8) (
  ∃ x17 : Sl, rd H8 ((⟨H.size, 0, none⟩ : Addr).add 6) = some (.slice x17.p x17.n x17.c) ∧ (
  iteB (decide ((x17.n : Int) > (16 : Int))) (
  R (.bool false) H8) (
  ∃ x18 : Sl, rd H8 ((⟨H.size, 0, none⟩ : Addr).add 7) = some (.slice x18.p x18.n x18.c) ∧ (
  iteB (decide ((x18.n : Int) > (128 : Int))) (
  R (.bool false) H8) (
  ∃ x19 : Sl, rd H8 ((⟨H.size, 0, none⟩ : Addr).add 7) = some (.slice x19.p x19.n x19.c) ∧ (
  ∃ I_1 : Int → Heap → Prop, ∃ M_1 : Int → Heap → Nat, I_1 (0 : Int) H8 ∧ (∀ x20 : Int, ∀ H9 : Heap, I_1 x20 H9 → F_allocate_ValidHost_r1 R H x19 I_1 M_1 x20 H9)))))))))))))))))))))))

def F_allocate_ValidHost (R : Value → Heap → Prop) (h_0 : Int) (h_1 : Sl) (h_2 : Sl) (h_3 : Sl) (h_4 : Sl) (h_5 : Sl) (h_6 : Sl) (h_7 : Sl) (H : Heap) : Prop :=
  letH (H.push (.cells #[.int .i64 h_0, .slice h_1.p h_1.n h_1.c, .slice h_2.p h_2.n h_2.c, .slice h_3.p h_3.n h_3.c, .slice h_4.p h_4.n h_4.c, .slice h_5.p h_5.n h_5.c, .slice h_6.p h_6.n h_6.c, .slice h_7.p h_7.n h_7.c] t_api_Host (0, 0))) (fun H1 : Heap =>
  ∃ x : Int, rd H1 (⟨H.size, 0, none⟩ : Addr) = some (.int .i64 x) ∧ (
  iteB (decide (x < (1 : Int))) (
  R (.bool false) H1) (
  ∃ x1 : Int, rd H1 (⟨H.size, 0, none⟩ : Addr) = some (.int .i64 x1) ∧ (
  iteB (decide (x1 > (256 : Int))) (
  R (.bool false) H1) (
  ∃ x2 : Sl, rd H1 ((⟨H.size, 0, none⟩ : Addr).add 1) = some (.slice x2.p x2.n x2.c) ∧ (
  ∃ x3 : Sl, rd H1 ((⟨H.size, 0, none⟩ : Addr).add 2) = some (.slice x3.p x3.n x3.c) ∧ (
  ∃ x4 : Sl, rd H1 ((⟨H.size, 0, none⟩ : Addr).add 3) = some (.slice x4.p x4.n x4.c) ∧ (
  ∃ x5 : Sl, rd H1 ((⟨H.size, 0, none⟩ : Addr).add 4) = some (.slice x5.p x5.n x5.c) ∧ (
  ∃ x6 : Sl, rd H1 ((⟨H.size, 0, none⟩ : Addr).add 5) = some (.slice x6.p x6.n x6.c) ∧ (
  letH (H1.push (.cells #[.slice x2.p x2.n x2.c, .slice x3.p x3.n x3.c, .slice x4.p x4.n x4.c, .slice x5.p x5.n x5.c, .slice x6.p x6.n x6.c] t_sl_api_Range (0, 0))) (fun H2 : Heap =>
  ∃ I_ : Int → Heap → Prop, ∃ M_ : Int → Heap → Nat, I_ (0 : Int) H2 ∧ (∀ x7 : Int, ∀ H3 : Heap, I_ x7 H3 → F_allocate_ValidHost_r2 R H H1 I_ M_ x7 H3))))))))))))

theorem F_allocate_ValidHost_eq (R : Value → Heap → Prop) (h_0 : Int) (h_1 : Sl) (h_2 : Sl) (h_3 : Sl) (h_4 : Sl) (h_5 : Sl) (h_6 : Sl) (h_7 : Sl) (H : Heap) : wpF Try.prog Try.f53 [(27, .int .i64 0), (73, .int .i64 0)] [] [(4, [27], [1, 25, 26]), (16, [73], [1, 71, 72])] [17] [.agg #[.int .i64 h_0, .slice h_1.p h_1.n h_1.c, .slice h_2.p h_2.n h_2.c, .slice h_3.p h_3.n h_3.c, .slice h_4.p h_4.n h_4.c, .slice h_5.p h_5.n h_5.c, .slice h_6.p h_6.n h_6.c, .slice h_7.p h_7.n h_7.c]] H R = F_allocate_ValidHost R h_0 h_1 h_2 h_3 h_4 h_5 h_6 h_7 H := by kernel_rfl

theorem F_allocate_ValidHost_ok {R : Value → Heap → Prop} (h_0 : Int) (h_1 : Sl) (h_2 : Sl) (h_3 : Sl) (h_4 : Sl) (h_5 : Sl) (h_6 : Sl) (h_7 : Sl) {H : Heap} (h : F_allocate_ValidHost R h_0 h_1 h_2 h_3 h_4 h_5 h_6 h_7 H) : CallsH Try.prog n_allocate_ValidHost #[.agg #[.int .i64 h_0, .slice h_1.p h_1.n h_1.c, .slice h_2.p h_2.n h_2.c, .slice h_3.p h_3.n h_3.c, .slice h_4.p h_4.n h_4.c, .slice h_5.p h_5.n h_5.c, .slice h_6.p h_6.n h_6.c, .slice h_7.p h_7.n h_7.c]] H R :=
  wpF_ok Try.func53 (F_allocate_ValidHost_eq R h_0 h_1 h_2 h_3 h_4 h_5 h_6 h_7 H) h

/-! ### 54: platformfw/resources.Needs -/

def F_resources_Needs_r1 (R : Value → Heap → Prop) (l : Sl) (H2 : Heap) (I_ : Int → Heap → Prop) (M_ : Int → Heap → Nat) (i1 : Int) (H4 : Heap) (x7 : Sl) (I_1 : Int → Heap → Prop) (M_1 : Int → Heap → Nat) (x8 : Int) (H9 : Heap) : Prop :=
  iteB (decide (x8 < (x7.n : Int))) (
  0 ≤ x8 ∧ x8 < (x7.n : Int) ∧ (unSome x7.p (fun a =>
  ∃ x9 : Int, rd H9 (a.add (x8.toNat * 4)) = some (.int .i64 x9) ∧ ∃ x10 : Int, rd H9 ((a.add (x8.toNat * 4)).add 1) = some (.int .i64 x10) ∧ ∃ x11 : Int, rd H9 ((a.add (x8.toNat * 4)).add 2) = some (.int .i64 x11) ∧ ∃ x12 : Int, rd H9 ((a.add (x8.toNat * 4)).add 3) = some (.int .i64 x12) ∧ (
  letH (H9.push (.cells #[.int .i64 (0 : Int), .int .i64 (0 : Int), .int .i64 (0 : Int), .int .i64 (0 : Int)] t_api_Need (0, 0))) (fun H10 : Heap =>
  okRow H10 (⟨H9.size, 0, none⟩ : Addr) 4 ∧ (
  letH (wrs H10 (⟨H9.size, 0, none⟩ : Addr) [.int .i64 x9, .int .i64 x10, .int .i64 x11, .int .i64 x12]) (fun H11 : Heap =>
  ∃ x13 : Int, rd H11 ((⟨H9.size, 0, none⟩ : Addr).add 3) = some (.int .i64 x13) ∧ (
  ∃ x14 : Int, rd H11 ((⟨H9.size, 0, none⟩ : Addr).add 2) = some (.int .i64 x14) ∧ (
  CallsH Try.prog n_resources_largest #[.int .i64 x14] H11 (fun v4 H12 =>
  ∃ x15 : Int, v4 = .int .i64 x15 ∧ (
  Keeps H11 H12 [(((⟨H9.size, 0, none⟩ : Addr).add 3), 1)] ∧ (
  iteB (decide (x13 > x15)) (
  R (.tuple #[.slice none 0 0, .int .i64 (11 : Int)]) H12) (
  0 ≤ i1 ∧ i1 < (l.n : Int) ∧ (unSome l.p (fun a1 =>
  ∃ parent : Int, rd H12 (a1.add (i1.toNat * 11)) = some (.int .i64 parent) ∧ (
  iteB (decide (parent ≥ (0 : Int))) (
  ∃ x16 : Int, rd H12 ((⟨H9.size, 0, none⟩ : Addr).add 2) = some (.int .i64 x16) ∧ (
  ∃ x17 : Int, rd H12 ((⟨H9.size, 0, none⟩ : Addr).add 2) = some (.int .i64 x17) ∧ (
  0 ≤ parent ∧ parent < (((l.n : Int).toNat : Nat) : Int) ∧ (0 ≤ x17 ∧ x17 < ((3 : Nat) : Int) ∧ (∃ x18 : Sl, rd H12 (((⟨H2.size, 0, none⟩ : Addr).add (parent.toNat * 3)).add (x17.toNat * 1)) = some (.slice x18.p x18.n x18.c) ∧ (
  ∃ x19 : Int, rd H12 ((⟨H9.size, 0, none⟩ : Addr).add 3) = some (.int .i64 x19) ∧ (
  0 ≤ parent ∧ parent < (((l.n : Int).toNat : Nat) : Int) ∧ (letH (H12.push (.cells #[.int .i64 x19] t_int (0, 0))) (fun H13 : Heap =>
  Keeps H12 H13 [(((⟨H9.size, 0, none⟩ : Addr).add 2), 1), (((⟨H9.size, 0, none⟩ : Addr).add 2), 1), ((((⟨H2.size, 0, none⟩ : Addr).add (parent.toNat * 3)).add (x17.toNat * 1)), 1)] ∧ (
  runH Try.prog (Builtin.append_ #[t_sl_int, t_sl_int] t_sl_int #[.slice x18.p x18.n x18.c, .slice (some (⟨H12.size, 0, none⟩ : Addr)) 1 1]) H13 (fun v5 H14 =>
  ∃ x20 : Sl, v5 = .slice x20.p x20.n x20.c ∧ (
  Keeps H13 H14 [(((⟨H9.size, 0, none⟩ : Addr).add 2), 1)] ∧ (
  0 ≤ x16 ∧ x16 < ((3 : Nat) : Int) ∧ (okRow H14 (((⟨H2.size, 0, none⟩ : Addr).add (parent.toNat * 3)).add (x16.toNat * 1)) 1 ∧ (
  letH (wrs H14 (((⟨H2.size, 0, none⟩ : Addr).add (parent.toNat * 3)).add (x16.toNat * 1)) [.slice x20.p x20.n x20.c]) (fun H15 : Heap =>
  I_1 (IntKind.i64.wrap (x8 + (1 : Int))) H15 ∧ M_1 (IntKind.i64.wrap (x8 + (1 : Int))) H15 < M_1 x8 H9)))))))))))))))) (
  I_1 (IntKind.i64.wrap (x8 + (1 : Int))) H12 ∧ M_1 (IntKind.i64.wrap (x8 + (1 : Int))) H12 < M_1 x8 H9))))))))))))))))) (
  letV (IntKind.i64.wrap (i1 - (1 : Int))) (fun i2 : Int =>
  I_ i2 H9 ∧ M_ i2 H9 < M_ i1 H4))

def F_resources_Needs_r2 (R : Value → Heap → Prop) (l : Sl) (H1 : Heap) (I_2 : Sl → Int → Heap → Prop) (M_2 : Sl → Int → Heap → Nat) (needs : Sl) (x21 : Int) (H16 : Heap) : Prop :=
  iteB (decide (x21 < (((l.n : Int).toNat : Nat) : Int))) (
  0 ≤ x21 ∧ x21 < (((l.n : Int).toNat : Nat) : Int) ∧ (∃ part : Sl, rd H16 ((⟨H1.size, 0, none⟩ : Addr).add (x21.toNat * 1)) = some (.slice part.p part.n part.c) ∧ (
  runH Try.prog (Builtin.append_ #[t_sl_api_Need, t_sl_api_Need] t_sl_api_Need #[.slice needs.p needs.n needs.c, .slice part.p part.n part.c]) H16 (fun v6 H17 =>
  ∃ needs1 : Sl, v6 = .slice needs1.p needs1.n needs1.c ∧ (
  I_2 needs1 (IntKind.i64.wrap (x21 + (1 : Int))) H17 ∧ M_2 needs1 (IntKind.i64.wrap (x21 + (1 : Int))) H17 < M_2 needs x21 H16))))) (
  R (.tuple #[.slice needs.p needs.n needs.c, .int .i64 (0 : Int)]) H16)

def F_resources_Needs_r3 (R : Value → Heap → Prop) (l : Sl) (high : Bool) (H1 : Heap) (H2 : Heap) (I_ : Int → Heap → Prop) (M_ : Int → Heap → Nat) (i1 : Int) (H4 : Heap) : Prop :=
  iteB (decide (i1 ≥ (0 : Int))) (
  0 ≤ i1 ∧ i1 < (((l.n : Int).toNat : Nat) : Int) ∧ (∃ x1 : Sl, rd H4 ((⟨H2.size, 0, none⟩ : Addr).add (i1.toNat * 3)) = some (.slice x1.p x1.n x1.c) ∧ ∃ x2 : Sl, rd H4 (((⟨H2.size, 0, none⟩ : Addr).add (i1.toNat * 3)).add 1) = some (.slice x2.p x2.n x2.c) ∧ ∃ x3 : Sl, rd H4 (((⟨H2.size, 0, none⟩ : Addr).add (i1.toNat * 3)).add 2) = some (.slice x3.p x3.n x3.c) ∧ (
  CallsH Try.prog n_resources_registers #[.slice l.p l.n l.c, .bool high, .int .i64 i1] H4 (fun v1 H5 =>
  ∃ x4 : Sl, v1 = .slice x4.p x4.n x4.c ∧ (
  Keeps H4 H5 [(((⟨H2.size, 0, none⟩ : Addr).add (i1.toNat * 3)), 3)] ∧ (
  CallsH Try.prog n_resources_windows #[.slice l.p l.n l.c, .bool high, .int .i64 i1, .agg #[.slice x1.p x1.n x1.c, .slice x2.p x2.n x2.c, .slice x3.p x3.n x3.c]] H5 (fun v2 H6 =>
  ∃ x5 : Sl, v2 = .slice x5.p x5.n x5.c ∧ (
  runH Try.prog (Builtin.append_ #[t_sl_api_Need, t_sl_api_Need] t_sl_api_Need #[.slice x4.p x4.n x4.c, .slice x5.p x5.n x5.c]) H6 (fun v3 H7 =>
  ∃ x6 : Sl, v3 = .slice x6.p x6.n x6.c ∧ (
  0 ≤ i1 ∧ i1 < (((l.n : Int).toNat : Nat) : Int) ∧ (okRow H7 ((⟨H1.size, 0, none⟩ : Addr).add (i1.toNat * 1)) 1 ∧ (
  letH (wrs H7 ((⟨H1.size, 0, none⟩ : Addr).add (i1.toNat * 1)) [.slice x6.p x6.n x6.c]) (fun H8 : Heap =>
  0 ≤ i1 ∧ i1 < (((l.n : Int).toNat : Nat) : Int) ∧ (∃ x7 : Sl, rd H8 ((⟨H1.size, 0, none⟩ : Addr).add (i1.toNat * 1)) = some (.slice x7.p x7.n x7.c) ∧ (
  ∃ I_1 : Int → Heap → Prop, ∃ M_1 : Int → Heap → Nat, I_1 (0 : Int) H8 ∧ (∀ x8 : Int, ∀ H9 : Heap, I_1 x8 H9 → F_resources_Needs_r1 R l H2 I_ M_ i1 H4 x7 I_1 M_1 x8 H9)))))))))))))))) (
  ∃ I_2 : Sl → Int → Heap → Prop, ∃ M_2 : Sl → Int → Heap → Nat, I_2 (Sl.mk none 0 0) (0 : Int) H4 ∧ (∀ needs : Sl, ∀ x21 : Int, ∀ H16 : Heap, I_2 needs x21 H16 → F_resources_Needs_r2 R l H1 I_2 M_2 needs x21 H16))

def F_resources_Needs (R : Value → Heap → Prop) (l : Sl) (high : Bool) (H : Heap) : Prop :=
  CallsH Try.prog n_enumerate_Valid #[.slice l.p l.n l.c] H (fun v H1 =>
  ∃ x : Bool, v = .bool x ∧ (
  iteB (!x) (
  R (.tuple #[.slice none 0 0, .int .i64 (1 : Int)]) H1) (
  0 ≤ (l.n : Int) ∧ (l.n : Int) ≤ (l.n : Int) ∧ (l.n : Int) * ((24 : Nat) : Int) ≤ 281474976710656 ∧ (
  letH (H1.push (.cells (zeroRow (.slice none 0 0) (l.n : Int).toNat) t_sl_api_Need (0, 0))) (fun H2 : Heap =>
  0 ≤ (l.n : Int) ∧ (l.n : Int) ≤ (l.n : Int) ∧ (l.n : Int) * ((72 : Nat) : Int) ≤ 281474976710656 ∧ (
  letH (H2.push (.cells (zeroRow (.agg #[.slice none 0 0, .slice none 0 0, .slice none 0 0]) (l.n : Int).toNat) t_3_sl_int (0, 0))) (fun H3 : Heap =>
  letV (IntKind.i64.wrap ((l.n : Int) - (1 : Int))) (fun i : Int =>
  ∃ I_ : Int → Heap → Prop, ∃ M_ : Int → Heap → Nat, I_ i H3 ∧ (∀ i1 : Int, ∀ H4 : Heap, I_ i1 H4 → F_resources_Needs_r3 R l high H1 H2 I_ M_ i1 H4)))))))))

theorem F_resources_Needs_eq (R : Value → Heap → Prop) (l : Sl) (high : Bool) (H : Heap) : wpF Try.prog Try.f54 [(8, .int .i64 0), (12, .slice none 0 0), (52, .int .i64 0), (89, .int .i64 0)] [] [(6, [8], [0, 1, 6, 7]), (10, [52], [0, 1, 6, 7, 8, 50, 51]), (20, [12, 89], [87, 88])] [17] [.slice l.p l.n l.c, .bool high] H R = F_resources_Needs R l high H := by kernel_rfl

theorem F_resources_Needs_ok {R : Value → Heap → Prop} (l : Sl) (high : Bool) {H : Heap} (h : F_resources_Needs R l high H) : CallsH Try.prog n_resources_Needs #[.slice l.p l.n l.c, .bool high] H R :=
  wpF_ok Try.func54 (F_resources_Needs_eq R l high H) h

/-! ### 55: platformfw/allocate.hostFree -/

def F_allocate_hostFree (R : Value → Heap → Prop) (h_0 : Int) (h_1 : Sl) (h_2 : Sl) (h_3 : Sl) (h_4 : Sl) (h_5 : Sl) (h_6 : Sl) (h_7 : Sl) (classv : Int) (H : Heap) : Prop :=
  letH (H.push (.cells #[.int .i64 h_0, .slice h_1.p h_1.n h_1.c, .slice h_2.p h_2.n h_2.c, .slice h_3.p h_3.n h_3.c, .slice h_4.p h_4.n h_4.c, .slice h_5.p h_5.n h_5.c, .slice h_6.p h_6.n h_6.c, .slice h_7.p h_7.n h_7.c] t_api_Host (0, 0))) (fun H1 : Heap =>
  iteB (classv == (0 : Int)) (
  ∃ x : Sl, rd H1 ((⟨H.size, 0, none⟩ : Addr).add 1) = some (.slice x.p x.n x.c) ∧ (
  ∃ x1 : Sl, rd H1 ((⟨H.size, 0, none⟩ : Addr).add 4) = some (.slice x1.p x1.n x1.c) ∧ (
  CallsH Try.prog n_allocate_Free #[.slice x.p x.n x.c, .slice x1.p x1.n x1.c] H1 (fun v H2 =>
  ∃ x2 : Sl, v = .slice x2.p x2.n x2.c ∧ (
  R (.slice x2.p x2.n x2.c) H2))))) (
  iteB (classv == (1 : Int)) (
  ∃ x3 : Sl, rd H1 ((⟨H.size, 0, none⟩ : Addr).add 2) = some (.slice x3.p x3.n x3.c) ∧ (
  ∃ x4 : Sl, rd H1 ((⟨H.size, 0, none⟩ : Addr).add 5) = some (.slice x4.p x4.n x4.c) ∧ (
  CallsH Try.prog n_allocate_Free #[.slice x3.p x3.n x3.c, .slice x4.p x4.n x4.c] H1 (fun v1 H3 =>
  ∃ x5 : Sl, v1 = .slice x5.p x5.n x5.c ∧ (
  R (.slice x5.p x5.n x5.c) H3))))) (
  ∃ x6 : Sl, rd H1 ((⟨H.size, 0, none⟩ : Addr).add 3) = some (.slice x6.p x6.n x6.c) ∧ (
  ∃ x7 : Sl, rd H1 ((⟨H.size, 0, none⟩ : Addr).add 5) = some (.slice x7.p x7.n x7.c) ∧ (
  CallsH Try.prog n_allocate_Free #[.slice x6.p x6.n x6.c, .slice x7.p x7.n x7.c] H1 (fun v2 H4 =>
  ∃ x8 : Sl, v2 = .slice x8.p x8.n x8.c ∧ (
  R (.slice x8.p x8.n x8.c) H4)))))))

theorem F_allocate_hostFree_eq (R : Value → Heap → Prop) (h_0 : Int) (h_1 : Sl) (h_2 : Sl) (h_3 : Sl) (h_4 : Sl) (h_5 : Sl) (h_6 : Sl) (h_7 : Sl) (classv : Int) (H : Heap) : wpF Try.prog Try.f55 [] [] [] [17] [.agg #[.int .i64 h_0, .slice h_1.p h_1.n h_1.c, .slice h_2.p h_2.n h_2.c, .slice h_3.p h_3.n h_3.c, .slice h_4.p h_4.n h_4.c, .slice h_5.p h_5.n h_5.c, .slice h_6.p h_6.n h_6.c, .slice h_7.p h_7.n h_7.c], .int .i64 classv] H R = F_allocate_hostFree R h_0 h_1 h_2 h_3 h_4 h_5 h_6 h_7 classv H := by kernel_rfl

theorem F_allocate_hostFree_ok {R : Value → Heap → Prop} (h_0 : Int) (h_1 : Sl) (h_2 : Sl) (h_3 : Sl) (h_4 : Sl) (h_5 : Sl) (h_6 : Sl) (h_7 : Sl) (classv : Int) {H : Heap} (h : F_allocate_hostFree R h_0 h_1 h_2 h_3 h_4 h_5 h_6 h_7 classv H) : CallsH Try.prog n_allocate_hostFree #[.agg #[.int .i64 h_0, .slice h_1.p h_1.n h_1.c, .slice h_2.p h_2.n h_2.c, .slice h_3.p h_3.n h_3.c, .slice h_4.p h_4.n h_4.c, .slice h_5.p h_5.n h_5.c, .slice h_6.p h_6.n h_6.c, .slice h_7.p h_7.n h_7.c], .int .i64 classv] H R :=
  wpF_ok Try.func55 (F_allocate_hostFree_eq R h_0 h_1 h_2 h_3 h_4 h_5 h_6 h_7 classv H) h

/-! ### 56: platformfw/allocate.window -/

def F_allocate_window_k1 (R : Value → Heap → Prop) (I_ : Int → Heap → Prop) (M_ : Int → Heap → Nat) (x : Int) (H1 : Heap) (x8 : Bool) (H4 : Heap) : Prop :=
  iteB x8 (
  ∃ x9 : Int, rd H4 ((⟨H1.size, 0, none⟩ : Addr).add 4) = some (.int .u64 x9) ∧ (
  ∃ x10 : Int, rd H4 ((⟨H1.size, 0, none⟩ : Addr).add 3) = some (.int .i64 x10) ∧ (
  0 ≤ x10 ∧ (
  letV (IntKind.u64.wrap ((1 : Int) * 2 ^ (min x10.toNat IntKind.u64.bits))) (fun x11 : Int =>
  R (.tuple #[.int .u64 x9, .int .u64 x11, .bool true]) H4))))) (
  I_ (IntKind.i64.wrap (x + (1 : Int))) H4 ∧ M_ (IntKind.i64.wrap (x + (1 : Int))) H4 < M_ x H1)

def F_allocate_window_r2 (R : Value → Heap → Prop) (a : Sl) (bridge : Int) (classv : Int) (I_ : Int → Heap → Prop) (M_ : Int → Heap → Nat) (x : Int) (H1 : Heap) : Prop :=
  iteB (decide (x < (a.n : Int))) (
  0 ≤ x ∧ x < (a.n : Int) ∧ (unSome a.p (fun a1 =>
  ∃ x1 : Int, rd H1 (a1.add (x.toNat * 5)) = some (.int .i64 x1) ∧ ∃ x2 : Int, rd H1 ((a1.add (x.toNat * 5)).add 1) = some (.int .i64 x2) ∧ ∃ x3 : Int, rd H1 ((a1.add (x.toNat * 5)).add 2) = some (.int .i64 x3) ∧ ∃ x4 : Int, rd H1 ((a1.add (x.toNat * 5)).add 3) = some (.int .i64 x4) ∧ ∃ x5 : Int, rd H1 ((a1.add (x.toNat * 5)).add 4) = some (.int .u64 x5) ∧ (
  letH (H1.push (.cells #[.int .i64 (0 : Int), .int .i64 (0 : Int), .int .i64 (0 : Int), .int .i64 (0 : Int), .int .u64 (0 : Int)] t_api_Assignment (0, 0))) (fun H2 : Heap =>
  okRow H2 (⟨H1.size, 0, none⟩ : Addr) 5 ∧ (
  letH (wrs H2 (⟨H1.size, 0, none⟩ : Addr) [.int .i64 x1, .int .i64 x2, .int .i64 x3, .int .i64 x4, .int .u64 x5]) (fun H3 : Heap =>
  ∃ J_ : Bool → Heap → Prop, (
  ∃ x6 : Int, rd H3 (⟨H1.size, 0, none⟩ : Addr) = some (.int .i64 x6) ∧ (
  iteB (x6 == bridge) (
  ∃ x7 : Int, rd H3 ((⟨H1.size, 0, none⟩ : Addr).add 1) = some (.int .i64 x7) ∧ (
  J_ (x7 == (IntKind.i64.wrap ((-1 : Int) - classv))) H3)) (
  J_ false H3))) ∧ (∀ x8 : Bool, ∀ H4 : Heap, J_ x8 H4 → F_allocate_window_k1 R I_ M_ x H1 x8 H4)))))))) (
  R (.tuple #[.int .u64 (0 : Int), .int .u64 (0 : Int), .bool false]) H1)

def F_allocate_window (R : Value → Heap → Prop) (a : Sl) (bridge : Int) (classv : Int) (H : Heap) : Prop :=
  ∃ I_ : Int → Heap → Prop, ∃ M_ : Int → Heap → Nat, I_ (0 : Int) H ∧ (∀ x : Int, ∀ H1 : Heap, I_ x H1 → F_allocate_window_r2 R a bridge classv I_ M_ x H1)

theorem F_allocate_window_eq (R : Value → Heap → Prop) (a : Sl) (bridge : Int) (classv : Int) (H : Heap) : wpF Try.prog Try.f56 [(13, .int .i64 0), (29, .bool false)] [(5, [29], [1, 2, 10, 11, 12, 13])] [(2, [13], [1, 2, 11, 12])] [17] [.slice a.p a.n a.c, .int .i64 bridge, .int .i64 classv] H R = F_allocate_window R a bridge classv H := by kernel_rfl

theorem F_allocate_window_ok {R : Value → Heap → Prop} (a : Sl) (bridge : Int) (classv : Int) {H : Heap} (h : F_allocate_window R a bridge classv H) : CallsH Try.prog n_allocate_window #[.slice a.p a.n a.c, .int .i64 bridge, .int .i64 classv] H R :=
  wpF_ok Try.func56 (F_allocate_window_eq R a bridge classv H) h

/-! ### 57: platformfw/allocate.placeBelow -/

def F_allocate_placeBelow_k1 (a : Sl) (I_ : Sl → Sl → Int → Heap → Prop) (M_ : Sl → Sl → Int → Heap → Nat) (items : Sl) (sizes : Sl) (x : Int) (H2 : Heap) (x4 : Bool) (H3 : Heap) : Prop :=
  iteB x4 (
  letH (H3.push (.cells #[.int .i64 x] t_int (0, 0))) (fun H4 : Heap =>
  runH Try.prog (Builtin.append_ #[t_sl_int, t_sl_int] t_sl_int #[.slice items.p items.n items.c, .slice (some (⟨H3.size, 0, none⟩ : Addr)) 1 1]) H4 (fun v H5 =>
  ∃ items1 : Sl, v = .slice items1.p items1.n items1.c ∧ (
  0 ≤ x ∧ x < (a.n : Int) ∧ (unSome a.p (fun a4 =>
  ∃ x5 : Int, rd H5 ((a4.add (x.toNat * 5)).add 3) = some (.int .i64 x5) ∧ (
  letH (H5.push (.cells #[.int .i64 x5] t_int (0, 0))) (fun H6 : Heap =>
  runH Try.prog (Builtin.append_ #[t_sl_int, t_sl_int] t_sl_int #[.slice sizes.p sizes.n sizes.c, .slice (some (⟨H5.size, 0, none⟩ : Addr)) 1 1]) H6 (fun v1 H7 =>
  ∃ sizes1 : Sl, v1 = .slice sizes1.p sizes1.n sizes1.c ∧ (
  I_ items1 sizes1 (IntKind.i64.wrap (x + (1 : Int))) H7 ∧ M_ items1 sizes1 (IntKind.i64.wrap (x + (1 : Int))) H7 < M_ items sizes x H2)))))))))) (
  I_ items sizes (IntKind.i64.wrap (x + (1 : Int))) H3 ∧ M_ items sizes (IntKind.i64.wrap (x + (1 : Int))) H3 < M_ items sizes x H2)

def F_allocate_placeBelow_r2 (R : Value → Heap → Prop) (H : Heap) (a : Sl) (items : Sl) (x6 : Sl) (I_1 : Int → Heap → Prop) (M_1 : Int → Heap → Nat) (x16 : Int) (H13 : Heap) : Prop :=
  iteB (decide (x16 < (items.n : Int))) (
  0 ≤ x16 ∧ x16 < (items.n : Int) ∧ (unSome items.p (fun a5 =>
  ∃ i : Int, rd H13 (a5.add (x16.toNat * 1)) = some (.int .i64 i) ∧ (
  0 ≤ x16 ∧ x16 < (x6.n : Int) ∧ (unSome x6.p (fun a6 =>
  ∃ x17 : Int, rd H13 (a6.add (x16.toNat * 1)) = some (.int .u64 x17) ∧ (
  0 ≤ i ∧ i < (a.n : Int) ∧ (unSome a.p (fun a7 =>
  okRow H13 ((a7.add (i.toNat * 5)).add 4) 1 ∧ (
  letH (wrs H13 ((a7.add (i.toNat * 5)).add 4) [.int .u64 x17]) (fun H14 : Heap =>
  I_1 (IntKind.i64.wrap (x16 + (1 : Int))) H14 ∧ M_1 (IntKind.i64.wrap (x16 + (1 : Int))) H14 < M_1 x16 H13))))))))))) (
  okRow H13 (⟨H.size, 0, none⟩ : Addr) 4 ∧ (
  letH (wrs H13 (⟨H.size, 0, none⟩ : Addr) [.int .i64 (0 : Int), .int .i64 (0 : Int), .int .u64 (0 : Int), .int .u64 (0 : Int)]) (fun H15 : Heap =>
  ∃ r4 : Int, rd H15 (⟨H.size, 0, none⟩ : Addr) = some (.int .i64 r4) ∧ ∃ r5 : Int, rd H15 ((⟨H.size, 0, none⟩ : Addr).add 1) = some (.int .i64 r5) ∧ ∃ r6 : Int, rd H15 ((⟨H.size, 0, none⟩ : Addr).add 2) = some (.int .u64 r6) ∧ ∃ r7 : Int, rd H15 ((⟨H.size, 0, none⟩ : Addr).add 3) = some (.int .u64 r7) ∧ (
  R (.tuple #[.agg #[.int .i64 r4, .int .i64 r5, .int .u64 r6, .int .u64 r7], .int .i64 (0 : Int)]) H15))))

def F_allocate_placeBelow_r3 (R : Value → Heap → Prop) (H : Heap) (l : Sl) (a : Sl) (bridge : Int) (classv : Int) (free : Sl) (I_ : Sl → Sl → Int → Heap → Prop) (M_ : Sl → Sl → Int → Heap → Nat) (items : Sl) (sizes : Sl) (x : Int) (H2 : Heap) : Prop :=
  iteB (decide (x < (a.n : Int))) (
  ∃ J_ : Bool → Heap → Prop, (
  0 ≤ x ∧ x < (a.n : Int) ∧ (unSome a.p (fun a1 =>
  ∃ x1 : Int, rd H2 ((a1.add (x.toNat * 5)).add 2) = some (.int .i64 x1) ∧ (
  iteB (x1 == classv) (
  0 ≤ x ∧ x < (a.n : Int) ∧ (unSome a.p (fun a2 =>
  ∃ x2 : Int, rd H2 (a2.add (x.toNat * 5)) = some (.int .i64 x2) ∧ (
  0 ≤ x2 ∧ x2 < (l.n : Int) ∧ (unSome l.p (fun a3 =>
  ∃ x3 : Int, rd H2 (a3.add (x2.toNat * 11)) = some (.int .i64 x3) ∧ (
  J_ (x3 == bridge) H2))))))) (
  J_ false H2))))) ∧ (∀ x4 : Bool, ∀ H3 : Heap, J_ x4 H3 → F_allocate_placeBelow_k1 a I_ M_ items sizes x H2 x4 H3)) (
  CallsH Try.prog n_allocate_Place #[.slice free.p free.n free.c, .slice sizes.p sizes.n sizes.c] H2 (fun v2 H8 =>
  ∃ x6 : Sl, ∃ x7 : Int, ∃ x8 : Int, ∃ x9 : Int, ∃ x10 : Int, ∃ x11 : Int, v2 = .tuple #[.slice x6.p x6.n x6.c, .agg #[.int .i64 x7, .int .i64 x8, .int .u64 x9, .int .u64 x10], .int .i64 x11] ∧ (
  letH (H8.push (.cells #[.int .i64 (0 : Int), .int .i64 (0 : Int), .int .u64 (0 : Int), .int .u64 (0 : Int)] t_api_Certificate (0, 0))) (fun H9 : Heap =>
  okRow H9 (⟨H8.size, 0, none⟩ : Addr) 4 ∧ (
  letH (wrs H9 (⟨H8.size, 0, none⟩ : Addr) [.int .i64 x7, .int .i64 x8, .int .u64 x9, .int .u64 x10]) (fun H10 : Heap =>
  iteB (x11 != (0 : Int)) (
  okRow H10 (⟨H8.size, 0, none⟩ : Addr) 1 ∧ (
  letH (wrs H10 (⟨H8.size, 0, none⟩ : Addr) [.int .i64 classv]) (fun H11 : Heap =>
  ∃ x12 : Int, rd H11 (⟨H8.size, 0, none⟩ : Addr) = some (.int .i64 x12) ∧ ∃ x13 : Int, rd H11 ((⟨H8.size, 0, none⟩ : Addr).add 1) = some (.int .i64 x13) ∧ ∃ x14 : Int, rd H11 ((⟨H8.size, 0, none⟩ : Addr).add 2) = some (.int .u64 x14) ∧ ∃ x15 : Int, rd H11 ((⟨H8.size, 0, none⟩ : Addr).add 3) = some (.int .u64 x15) ∧ (
  okRow H11 (⟨H.size, 0, none⟩ : Addr) 4 ∧ (
  letH (wrs H11 (⟨H.size, 0, none⟩ : Addr) [.int .i64 x12, .int .i64 x13, .int .u64 x14, .int .u64 x15]) (fun H12 : Heap =>
  ∃ r : Int, rd H12 (⟨H.size, 0, none⟩ : Addr) = some (.int .i64 r) ∧ ∃ r1 : Int, rd H12 ((⟨H.size, 0, none⟩ : Addr).add 1) = some (.int .i64 r1) ∧ ∃ r2 : Int, rd H12 ((⟨H.size, 0, none⟩ : Addr).add 2) = some (.int .u64 r2) ∧ ∃ r3 : Int, rd H12 ((⟨H.size, 0, none⟩ : Addr).add 3) = some (.int .u64 r3) ∧ (
  R (.tuple #[.agg #[.int .i64 r, .int .i64 r1, .int .u64 r2, .int .u64 r3], .int .i64 x11]) H12))))))) (
  ∃ I_1 : Int → Heap → Prop, ∃ M_1 : Int → Heap → Nat, I_1 (0 : Int) H10 ∧ (∀ x16 : Int, ∀ H13 : Heap, I_1 x16 H13 → F_allocate_placeBelow_r2 R H a items x6 I_1 M_1 x16 H13))))))))

def F_allocate_placeBelow (R : Value → Heap → Prop) (l : Sl) (a : Sl) (bridge : Int) (classv : Int) (free : Sl) (H : Heap) : Prop :=
  letH (H.push (.cells #[.int .i64 (0 : Int), .int .i64 (0 : Int), .int .u64 (0 : Int), .int .u64 (0 : Int)] t_api_Certificate (0, 0))) (fun H1 : Heap =>
  ∃ I_ : Sl → Sl → Int → Heap → Prop, ∃ M_ : Sl → Sl → Int → Heap → Nat, I_ (Sl.mk none 0 0) (Sl.mk none 0 0) (0 : Int) H1 ∧ (∀ items : Sl, ∀ sizes : Sl, ∀ x : Int, ∀ H2 : Heap, I_ items sizes x H2 → F_allocate_placeBelow_r3 R H l a bridge classv free I_ M_ items sizes x H2))

theorem F_allocate_placeBelow_eq (R : Value → Heap → Prop) (l : Sl) (a : Sl) (bridge : Int) (classv : Int) (free : Sl) (H : Heap) : wpF Try.prog Try.f57 [(12, .slice none 0 0), (13, .slice none 0 0), (22, .int .i64 0), (46, .bool false), (76, .int .i64 0)] [(6, [46], [0, 1, 2, 3, 4, 10, 12, 13, 14, 21, 22])] [(3, [12, 13, 22], [0, 1, 2, 3, 4, 10, 21]), (14, [76], [1, 10, 15, 74, 75])] [17] [.slice l.p l.n l.c, .slice a.p a.n a.c, .int .i64 bridge, .int .i64 classv, .slice free.p free.n free.c] H R = F_allocate_placeBelow R l a bridge classv free H := by kernel_rfl

theorem F_allocate_placeBelow_ok {R : Value → Heap → Prop} (l : Sl) (a : Sl) (bridge : Int) (classv : Int) (free : Sl) {H : Heap} (h : F_allocate_placeBelow R l a bridge classv free H) : CallsH Try.prog n_allocate_placeBelow #[.slice l.p l.n l.c, .slice a.p a.n a.c, .int .i64 bridge, .int .i64 classv, .slice free.p free.n free.c] H R :=
  wpF_ok Try.func57 (F_allocate_placeBelow_eq R l a bridge classv free H) h

/-! ### 58: platformfw/platformfwref18.Valid -/

def F_ref18_Valid_r1 (R : Value → Heap → Prop) (l : Sl) (I_ : Int → Heap → Prop) (M_ : Int → Heap → Nat) (i : Int) (H1 : Heap) (I_1 : Int → Heap → Prop) (M_1 : Int → Heap → Nat) (k : Int) (H4 : Heap) : Prop :=
  iteB (decide (k < i)) (
  0 ≤ k ∧ k < (l.n : Int) ∧ (unSome l.p (fun a6 =>
  ∃ x17 : Int, rd H4 (a6.add (k.toNat * 11)) = some (.int .i64 x17) ∧ (
  0 ≤ i ∧ i < (l.n : Int) ∧ (unSome l.p (fun a7 =>
  ∃ x18 : Int, rd H4 (a7.add (i.toNat * 11)) = some (.int .i64 x18) ∧ (
  iteB (x17 == x18) (
  0 ≤ k ∧ k < (l.n : Int) ∧ (unSome l.p (fun a8 =>
  ∃ x19 : Int, rd H4 ((a8.add (k.toNat * 11)).add 1) = some (.int .i64 x19) ∧ (
  0 ≤ i ∧ i < (l.n : Int) ∧ (unSome l.p (fun a9 =>
  ∃ x20 : Int, rd H4 ((a9.add (i.toNat * 11)).add 1) = some (.int .i64 x20) ∧ (
  iteB (x19 == x20) (
  R (.bool false) H4) (
  letV (IntKind.i64.wrap (k + (1 : Int))) (fun k1 : Int =>
  I_1 k1 H4 ∧ M_1 k1 H4 < M_1 k H4))))))))) (
  letV (IntKind.i64.wrap (k + (1 : Int))) (fun k2 : Int =>
  I_1 k2 H4 ∧ M_1 k2 H4 < M_1 k H4))))))))) (
  letV (IntKind.i64.wrap (i + (1 : Int))) (fun i1 : Int =>
  I_ i1 H4 ∧ M_ i1 H4 < M_ i H1))

def F_ref18_Valid_k2 (R : Value → Heap → Prop) (l : Sl) (I_ : Int → Heap → Prop) (M_ : Int → Heap → Nat) (i : Int) (H1 : Heap) (H3 : Heap) : Prop :=
  ∃ I_1 : Int → Heap → Prop, ∃ M_1 : Int → Heap → Nat, I_1 (0 : Int) H3 ∧ (∀ k : Int, ∀ H4 : Heap, I_1 k H4 → F_ref18_Valid_r1 R l I_ M_ i H1 I_1 M_1 k H4)

def F_ref18_Valid_r3 (R : Value → Heap → Prop) (l : Sl) (I_ : Int → Heap → Prop) (M_ : Int → Heap → Nat) (i : Int) (H1 : Heap) : Prop :=
  iteB (decide (i < (l.n : Int))) (
  ∃ J_ : Heap → Prop, (
  0 ≤ i ∧ i < (l.n : Int) ∧ (unSome l.p (fun a =>
  ∃ x : Int, rd H1 (a.add (i.toNat * 11)) = some (.int .i64 x) ∧ ∃ x1 : Int, rd H1 ((a.add (i.toNat * 11)).add 1) = some (.int .i64 x1) ∧ ∃ x2 : Int, rd H1 ((a.add (i.toNat * 11)).add 2) = some (.int .i64 x2) ∧ ∃ x3 : Int, rd H1 ((a.add (i.toNat * 11)).add 3) = some (.int .i64 x3) ∧ ∃ x4 : Bool, rd H1 ((a.add (i.toNat * 11)).add 4) = some (.bool x4) ∧ ∃ x5 : Bool, rd H1 ((a.add (i.toNat * 11)).add 5) = some (.bool x5) ∧ ∃ x6 : Bool, rd H1 ((a.add (i.toNat * 11)).add 6) = some (.bool x6) ∧ ∃ x7 : Int, rd H1 ((a.add (i.toNat * 11)).add 7) = some (.int .i64 x7) ∧ ∃ x8 : Int, rd H1 ((a.add (i.toNat * 11)).add 8) = some (.int .i64 x8) ∧ ∃ x9 : Int, rd H1 ((a.add (i.toNat * 11)).add 9) = some (.int .i64 x9) ∧ ∃ x10 : Sl, rd H1 ((a.add (i.toNat * 11)).add 10) = some (.slice x10.p x10.n x10.c) ∧ (
  CallsH Try.prog n_ref18_ValidFunction #[.agg #[.int .i64 x, .int .i64 x1, .int .i64 x2, .int .i64 x3, .bool x4, .bool x5, .bool x6, .int .i64 x7, .int .i64 x8, .int .i64 x9, .slice x10.p x10.n x10.c]] H1 (fun v H2 =>
  ∃ x11 : Bool, v = .bool x11 ∧ (
  iteB (!x11) (
  R (.bool false) H2) (
  0 ≤ i ∧ i < (l.n : Int) ∧ (unSome l.p (fun a1 =>
  ∃ x12 : Int, rd H2 (a1.add (i.toNat * 11)) = some (.int .i64 x12) ∧ (
  iteB (decide (x12 < (-1 : Int))) (
  R (.bool false) H2) (
  0 ≤ i ∧ i < (l.n : Int) ∧ (unSome l.p (fun a2 =>
  ∃ x13 : Int, rd H2 (a2.add (i.toNat * 11)) = some (.int .i64 x13) ∧ (
  iteB (decide (x13 ≥ i)) (
  R (.bool false) H2) (
  0 ≤ i ∧ i < (l.n : Int) ∧ (unSome l.p (fun a3 =>
  ∃ x14 : Int, rd H2 (a3.add (i.toNat * 11)) = some (.int .i64 x14) ∧ (
  iteB (decide (x14 ≥ (0 : Int))) (
  0 ≤ i ∧ i < (l.n : Int) ∧ (unSome l.p (fun a4 =>
  ∃ x15 : Int, rd H2 (a4.add (i.toNat * 11)) = some (.int .i64 x15) ∧ (
  0 ≤ x15 ∧ x15 < (l.n : Int) ∧ (unSome l.p (fun a5 =>
  ∃ x16 : Bool, rd H2 ((a5.add (x15.toNat * 11)).add 4) = some (.bool x16) ∧ (
  iteB (!x16) (
  R (.bool false) H2) (
  J_ H2)))))))) (
  J_ H2))))))))))))))))))) ∧ (∀ H3 : Heap, J_ H3 → F_ref18_Valid_k2 R l I_ M_ i H1 H3)) (
  R (.bool true) H1)

def F_ref18_Valid (R : Value → Heap → Prop) (l : Sl) (H : Heap) : Prop :=
  iteB (decide ((l.n : Int) > (64 : Int))) (
  R (.bool false) H) (
  ∃ I_ : Int → Heap → Prop, ∃ M_ : Int → Heap → Nat, I_ (0 : Int) H ∧ (∀ i : Int, ∀ H1 : Heap, I_ i H1 → F_ref18_Valid_r3 R l I_ M_ i H1))

theorem F_ref18_Valid_eq (R : Value → Heap → Prop) (l : Sl) (H : Heap) : wpF Try.prog Try.f58 [(3, .int .i64 0), (4, .int .i64 0)] [(8, [], [0, 3])] [(4, [3], [0]), (9, [4], [0, 3])] [17] [.slice l.p l.n l.c] H R = F_ref18_Valid R l H := by kernel_rfl

theorem F_ref18_Valid_ok {R : Value → Heap → Prop} (l : Sl) {H : Heap} (h : F_ref18_Valid R l H) : CallsH Try.prog n_ref18_Valid #[.slice l.p l.n l.c] H R :=
  wpF_ok Try.func58 (F_ref18_Valid_eq R l H) h

/-! ### 59: platformfw/platformfwref18.Class -/

def F_ref18_Class (R : Value → Heap → Prop) (l : Sl) (high : Bool) (i : Int) (k : Int) (H : Heap) : Prop :=
  CallsH Try.prog n_ref18_Valid #[.slice l.p l.n l.c] H (fun v H1 =>
  ∃ x : Bool, v = .bool x ∧ (
  iteB (!x) (
  R (.tuple #[.int .i64 (0 : Int), .bool false]) H1) (
  iteB (decide (i < (0 : Int))) (
  R (.tuple #[.int .i64 (0 : Int), .bool false]) H1) (
  iteB (decide (i ≥ (l.n : Int))) (
  R (.tuple #[.int .i64 (0 : Int), .bool false]) H1) (
  0 ≤ i ∧ i < (l.n : Int) ∧ (unSome l.p (fun a =>
  ∃ x1 : Int, rd H1 (a.add (i.toNat * 11)) = some (.int .i64 x1) ∧ ∃ x2 : Int, rd H1 ((a.add (i.toNat * 11)).add 1) = some (.int .i64 x2) ∧ ∃ x3 : Int, rd H1 ((a.add (i.toNat * 11)).add 2) = some (.int .i64 x3) ∧ ∃ x4 : Int, rd H1 ((a.add (i.toNat * 11)).add 3) = some (.int .i64 x4) ∧ ∃ x5 : Bool, rd H1 ((a.add (i.toNat * 11)).add 4) = some (.bool x5) ∧ ∃ x6 : Bool, rd H1 ((a.add (i.toNat * 11)).add 5) = some (.bool x6) ∧ ∃ x7 : Bool, rd H1 ((a.add (i.toNat * 11)).add 6) = some (.bool x7) ∧ ∃ x8 : Int, rd H1 ((a.add (i.toNat * 11)).add 7) = some (.int .i64 x8) ∧ ∃ x9 : Int, rd H1 ((a.add (i.toNat * 11)).add 8) = some (.int .i64 x9) ∧ ∃ x10 : Int, rd H1 ((a.add (i.toNat * 11)).add 9) = some (.int .i64 x10) ∧ ∃ x11 : Sl, rd H1 ((a.add (i.toNat * 11)).add 10) = some (.slice x11.p x11.n x11.c) ∧ (
  CallsH Try.prog n_ref18_bar #[.agg #[.int .i64 x1, .int .i64 x2, .int .i64 x3, .int .i64 x4, .bool x5, .bool x6, .bool x7, .int .i64 x8, .int .i64 x9, .int .i64 x10, .slice x11.p x11.n x11.c], .int .i64 k] H1 (fun v1 H2 =>
  ∃ x12 : Int, ∃ x13 : Int, v1 = .agg #[.int .i64 x12, .int .i64 x13] ∧ (
  iteB (x12 == (0 : Int)) (
  R (.tuple #[.int .i64 (0 : Int), .bool false]) H2) (
  0 ≤ i ∧ i < (l.n : Int) ∧ (unSome l.p (fun a1 =>
  ∃ x14 : Int, rd H2 (a1.add (i.toNat * 11)) = some (.int .i64 x14) ∧ ∃ x15 : Int, rd H2 ((a1.add (i.toNat * 11)).add 1) = some (.int .i64 x15) ∧ ∃ x16 : Int, rd H2 ((a1.add (i.toNat * 11)).add 2) = some (.int .i64 x16) ∧ ∃ x17 : Int, rd H2 ((a1.add (i.toNat * 11)).add 3) = some (.int .i64 x17) ∧ ∃ x18 : Bool, rd H2 ((a1.add (i.toNat * 11)).add 4) = some (.bool x18) ∧ ∃ x19 : Bool, rd H2 ((a1.add (i.toNat * 11)).add 5) = some (.bool x19) ∧ ∃ x20 : Bool, rd H2 ((a1.add (i.toNat * 11)).add 6) = some (.bool x20) ∧ ∃ x21 : Int, rd H2 ((a1.add (i.toNat * 11)).add 7) = some (.int .i64 x21) ∧ ∃ x22 : Int, rd H2 ((a1.add (i.toNat * 11)).add 8) = some (.int .i64 x22) ∧ ∃ x23 : Int, rd H2 ((a1.add (i.toNat * 11)).add 9) = some (.int .i64 x23) ∧ ∃ x24 : Sl, rd H2 ((a1.add (i.toNat * 11)).add 10) = some (.slice x24.p x24.n x24.c) ∧ (
  CallsH Try.prog n_ref18_bar #[.agg #[.int .i64 x14, .int .i64 x15, .int .i64 x16, .int .i64 x17, .bool x18, .bool x19, .bool x20, .int .i64 x21, .int .i64 x22, .int .i64 x23, .slice x24.p x24.n x24.c], .int .i64 k] H2 (fun v2 H3 =>
  ∃ x25 : Int, ∃ x26 : Int, v2 = .agg #[.int .i64 x25, .int .i64 x26] ∧ (
  iteB (x25 == (1 : Int)) (
  R (.tuple #[.int .i64 (0 : Int), .bool true]) H3) (
  0 ≤ i ∧ i < (l.n : Int) ∧ (unSome l.p (fun a2 =>
  ∃ x27 : Int, rd H3 (a2.add (i.toNat * 11)) = some (.int .i64 x27) ∧ ∃ x28 : Int, rd H3 ((a2.add (i.toNat * 11)).add 1) = some (.int .i64 x28) ∧ ∃ x29 : Int, rd H3 ((a2.add (i.toNat * 11)).add 2) = some (.int .i64 x29) ∧ ∃ x30 : Int, rd H3 ((a2.add (i.toNat * 11)).add 3) = some (.int .i64 x30) ∧ ∃ x31 : Bool, rd H3 ((a2.add (i.toNat * 11)).add 4) = some (.bool x31) ∧ ∃ x32 : Bool, rd H3 ((a2.add (i.toNat * 11)).add 5) = some (.bool x32) ∧ ∃ x33 : Bool, rd H3 ((a2.add (i.toNat * 11)).add 6) = some (.bool x33) ∧ ∃ x34 : Int, rd H3 ((a2.add (i.toNat * 11)).add 7) = some (.int .i64 x34) ∧ ∃ x35 : Int, rd H3 ((a2.add (i.toNat * 11)).add 8) = some (.int .i64 x35) ∧ ∃ x36 : Int, rd H3 ((a2.add (i.toNat * 11)).add 9) = some (.int .i64 x36) ∧ ∃ x37 : Sl, rd H3 ((a2.add (i.toNat * 11)).add 10) = some (.slice x37.p x37.n x37.c) ∧ (
  CallsH Try.prog n_ref18_bar #[.agg #[.int .i64 x27, .int .i64 x28, .int .i64 x29, .int .i64 x30, .bool x31, .bool x32, .bool x33, .int .i64 x34, .int .i64 x35, .int .i64 x36, .slice x37.p x37.n x37.c], .int .i64 k] H3 (fun v3 H4 =>
  ∃ x38 : Int, ∃ x39 : Int, v3 = .agg #[.int .i64 x38, .int .i64 x39] ∧ (
  iteB (x38 == (4 : Int)) (
  iteB high (
  CallsH Try.prog n_ref18_above #[.slice l.p l.n l.c, .int .i64 i] H4 (fun v4 H5 =>
  ∃ x40 : Bool, v4 = .bool x40 ∧ (
  iteB x40 (
  R (.tuple #[.int .i64 (2 : Int), .bool true]) H5) (
  R (.tuple #[.int .i64 (1 : Int), .bool true]) H5)))) (
  R (.tuple #[.int .i64 (1 : Int), .bool true]) H4)) (
  R (.tuple #[.int .i64 (1 : Int), .bool true]) H4)))))))))))))))))))))))

theorem F_ref18_Class_eq (R : Value → Heap → Prop) (l : Sl) (high : Bool) (i : Int) (k : Int) (H : Heap) : wpF Try.prog Try.f59 [] [] [] [17] [.slice l.p l.n l.c, .bool high, .int .i64 i, .int .i64 k] H R = F_ref18_Class R l high i k H := by kernel_rfl

theorem F_ref18_Class_ok {R : Value → Heap → Prop} (l : Sl) (high : Bool) (i : Int) (k : Int) {H : Heap} (h : F_ref18_Class R l high i k H) : CallsH Try.prog n_ref18_Class #[.slice l.p l.n l.c, .bool high, .int .i64 i, .int .i64 k] H R :=
  wpF_ok Try.func59 (F_ref18_Class_eq R l high i k H) h

/-! ### 60: platformfw/platformfwref18.window -/

def F_ref18_window_k1 (needs : Sl) (I_ : Sl → Int → Heap → Prop) (M_ : Sl → Int → Heap → Nat) (sizes : Sl) (k : Int) (H1 : Heap) (x3 : Bool) (H2 : Heap) : Prop :=
  iteB x3 (
  0 ≤ k ∧ k < (needs.n : Int) ∧ (unSome needs.p (fun a3 =>
  ∃ x4 : Int, rd H2 ((a3.add (k.toNat * 4)).add 3) = some (.int .i64 x4) ∧ (
  letH (H2.push (.cells #[.int .i64 x4] t_int (0, 0))) (fun H3 : Heap =>
  runH Try.prog (Builtin.append_ #[t_sl_int, t_sl_int] t_sl_int #[.slice sizes.p sizes.n sizes.c, .slice (some (⟨H2.size, 0, none⟩ : Addr)) 1 1]) H3 (fun v H4 =>
  ∃ sizes1 : Sl, v = .slice sizes1.p sizes1.n sizes1.c ∧ (
  letV (IntKind.i64.wrap (k + (1 : Int))) (fun k1 : Int =>
  I_ sizes1 k1 H4 ∧ M_ sizes1 k1 H4 < M_ sizes k H1)))))))) (
  letV (IntKind.i64.wrap (k + (1 : Int))) (fun k2 : Int =>
  I_ sizes k2 H2 ∧ M_ sizes k2 H2 < M_ sizes k H1))

def F_ref18_window_k2 (R : Value → Heap → Prop) (l : Sl) (i : Int) (classv : Int) (sizes : Sl) (H7 : Heap) : Prop :=
  0 ≤ i ∧ i < (l.n : Int) ∧ (unSome l.p (fun a6 =>
  ∃ x8 : Bool, rd H7 ((a6.add (i.toNat * 11)).add 6) = some (.bool x8) ∧ (
  CallsH Try.prog n_ref18_WindowSize #[.slice sizes.p sizes.n sizes.c, .int .i64 classv, .bool x8] H7 (fun v2 H8 =>
  ∃ x9 : Int, ∃ x10 : Bool, v2 = .tuple #[.int .i64 x9, .bool x10] ∧ (
  R (.tuple #[.int .i64 x9, .bool x10]) H8)))))

def F_ref18_window_k3 (R : Value → Heap → Prop) (l : Sl) (i : Int) (classv : Int) (sizes : Sl) (port : Bool) (H6 : Heap) : Prop :=
  ∃ J_2 : Heap → Prop, (
  iteB ((sizes.n : Int) == (0 : Int)) (
  iteB (!port) (
  R (.tuple #[.int .i64 (0 : Int), .bool false]) H6) (
  J_2 H6)) (
  J_2 H6)) ∧ (∀ H7 : Heap, J_2 H7 → F_ref18_window_k2 R l i classv sizes H7)

def F_ref18_window_r4 (R : Value → Heap → Prop) (l : Sl) (high : Bool) (i : Int) (classv : Int) (needs : Sl) (I_ : Sl → Int → Heap → Prop) (M_ : Sl → Int → Heap → Nat) (sizes : Sl) (k : Int) (H1 : Heap) : Prop :=
  iteB (decide (k < (needs.n : Int))) (
  ∃ J_ : Bool → Heap → Prop, (
  0 ≤ k ∧ k < (needs.n : Int) ∧ (unSome needs.p (fun a =>
  ∃ x : Int, rd H1 ((a.add (k.toNat * 4)).add 2) = some (.int .i64 x) ∧ (
  iteB (x == classv) (
  0 ≤ k ∧ k < (needs.n : Int) ∧ (unSome needs.p (fun a1 =>
  ∃ x1 : Int, rd H1 (a1.add (k.toNat * 4)) = some (.int .i64 x1) ∧ (
  0 ≤ x1 ∧ x1 < (l.n : Int) ∧ (unSome l.p (fun a2 =>
  ∃ x2 : Int, rd H1 (a2.add (x1.toNat * 11)) = some (.int .i64 x2) ∧ (
  J_ (x2 == i) H1))))))) (
  J_ false H1))))) ∧ (∀ x3 : Bool, ∀ H2 : Heap, J_ x3 H2 → F_ref18_window_k1 needs I_ M_ sizes k H1 x3 H2)) (
  ∃ J_1 : Bool → Heap → Prop, (
  0 ≤ i ∧ i < (l.n : Int) ∧ (unSome l.p (fun a4 =>
  ∃ x5 : Bool, rd H1 ((a4.add (i.toNat * 11)).add 6) = some (.bool x5) ∧ (
  iteB x5 (
  iteB (classv != (2 : Int)) (
  J_1 true H1) (
  iteB high (
  0 ≤ i ∧ i < (l.n : Int) ∧ (unSome l.p (fun a5 =>
  ∃ x6 : Bool, rd H1 ((a5.add (i.toNat * 11)).add 5) = some (.bool x6) ∧ (
  iteB x6 (
  CallsH Try.prog n_ref18_above #[.slice l.p l.n l.c, .int .i64 i] H1 (fun v1 H5 =>
  ∃ x7 : Bool, v1 = .bool x7 ∧ (
  J_1 x7 H5))) (
  J_1 false H1))))) (
  J_1 false H1))) (
  J_1 false H1))))) ∧ (∀ port : Bool, ∀ H6 : Heap, J_1 port H6 → F_ref18_window_k3 R l i classv sizes port H6))

def F_ref18_window (R : Value → Heap → Prop) (l : Sl) (high : Bool) (i : Int) (classv : Int) (needs : Sl) (H : Heap) : Prop :=
  ∃ I_ : Sl → Int → Heap → Prop, ∃ M_ : Sl → Int → Heap → Nat, I_ (Sl.mk none 0 0) (0 : Int) H ∧ (∀ sizes : Sl, ∀ k : Int, ∀ H1 : Heap, I_ sizes k H1 → F_ref18_window_r4 R l high i classv needs I_ M_ sizes k H1)

theorem F_ref18_window_eq (R : Value → Heap → Prop) (l : Sl) (high : Bool) (i : Int) (classv : Int) (needs : Sl) (H : Heap) : wpF Try.prog Try.f60 [(12, .slice none 0 0), (13, .int .i64 0), (14, .bool false), (40, .bool false)] [(6, [40], [0, 1, 2, 3, 4, 12, 13]), (8, [14], [0, 2, 3, 12]), (10, [], [0, 2, 3, 12])] [(3, [12, 13], [0, 1, 2, 3, 4])] [17] [.slice l.p l.n l.c, .bool high, .int .i64 i, .int .i64 classv, .slice needs.p needs.n needs.c] H R = F_ref18_window R l high i classv needs H := by kernel_rfl

theorem F_ref18_window_ok {R : Value → Heap → Prop} (l : Sl) (high : Bool) (i : Int) (classv : Int) (needs : Sl) {H : Heap} (h : F_ref18_window R l high i classv needs H) : CallsH Try.prog n_ref18_window #[.slice l.p l.n l.c, .bool high, .int .i64 i, .int .i64 classv, .slice needs.p needs.n needs.c] H R :=
  wpF_ok Try.func60 (F_ref18_window_eq R l high i classv needs H) h

/-! ### 61: platformfw/allocate.covers -/

def F_allocate_covers_r1 (R : Value → Heap → Prop) (a : Sl) (x : Sl) (I_ : Int → Heap → Prop) (M_ : Int → Heap → Nat) (x2 : Int) (H2 : Heap) : Prop :=
  iteB (decide (x2 < (x.n : Int))) (
  0 ≤ x2 ∧ x2 < (x.n : Int) ∧ (unSome x.p (fun a1 =>
  ∃ x3 : Int, rd H2 (a1.add (x2.toNat * 4)) = some (.int .i64 x3) ∧ ∃ x4 : Int, rd H2 ((a1.add (x2.toNat * 4)).add 1) = some (.int .i64 x4) ∧ ∃ x5 : Int, rd H2 ((a1.add (x2.toNat * 4)).add 2) = some (.int .i64 x5) ∧ ∃ x6 : Int, rd H2 ((a1.add (x2.toNat * 4)).add 3) = some (.int .i64 x6) ∧ (
  letH (H2.push (.cells #[.int .i64 (0 : Int), .int .i64 (0 : Int), .int .i64 (0 : Int), .int .i64 (0 : Int)] t_api_Need (0, 0))) (fun H3 : Heap =>
  okRow H3 (⟨H2.size, 0, none⟩ : Addr) 4 ∧ (
  letH (wrs H3 (⟨H2.size, 0, none⟩ : Addr) [.int .i64 x3, .int .i64 x4, .int .i64 x5, .int .i64 x6]) (fun H4 : Heap =>
  0 ≤ x2 ∧ x2 < (a.n : Int) ∧ (unSome a.p (fun a2 =>
  ∃ x7 : Int, rd H4 (a2.add (x2.toNat * 5)) = some (.int .i64 x7) ∧ ∃ x8 : Int, rd H4 ((a2.add (x2.toNat * 5)).add 1) = some (.int .i64 x8) ∧ ∃ x9 : Int, rd H4 ((a2.add (x2.toNat * 5)).add 2) = some (.int .i64 x9) ∧ ∃ x10 : Int, rd H4 ((a2.add (x2.toNat * 5)).add 3) = some (.int .i64 x10) ∧ (
  ∃ x11 : Int, rd H4 (⟨H2.size, 0, none⟩ : Addr) = some (.int .i64 x11) ∧ ∃ x12 : Int, rd H4 ((⟨H2.size, 0, none⟩ : Addr).add 1) = some (.int .i64 x12) ∧ ∃ x13 : Int, rd H4 ((⟨H2.size, 0, none⟩ : Addr).add 2) = some (.int .i64 x13) ∧ ∃ x14 : Int, rd H4 ((⟨H2.size, 0, none⟩ : Addr).add 3) = some (.int .i64 x14) ∧ (
  iteB (!((x7 == x11) && ((x8 == x12) && ((x9 == x13) && ((x10 == x14) && true))))) (
  R (.bool false) H4) (
  I_ (IntKind.i64.wrap (x2 + (1 : Int))) H4 ∧ M_ (IntKind.i64.wrap (x2 + (1 : Int))) H4 < M_ x2 H2)))))))))))) (
  R (.bool true) H2)

def F_allocate_covers (R : Value → Heap → Prop) (l : Sl) (high : Bool) (a : Sl) (H : Heap) : Prop :=
  CallsH Try.prog n_resources_Needs #[.slice l.p l.n l.c, .bool high] H (fun v H1 =>
  ∃ x : Sl, ∃ x1 : Int, v = .tuple #[.slice x.p x.n x.c, .int .i64 x1] ∧ (
  iteB (x1 != (0 : Int)) (
  R (.bool false) H1) (
  iteB ((x.n : Int) != (a.n : Int)) (
  R (.bool false) H1) (
  ∃ I_ : Int → Heap → Prop, ∃ M_ : Int → Heap → Nat, I_ (0 : Int) H1 ∧ (∀ x2 : Int, ∀ H2 : Heap, I_ x2 H2 → F_allocate_covers_r1 R a x I_ M_ x2 H2)))))

theorem F_allocate_covers_eq (R : Value → Heap → Prop) (l : Sl) (high : Bool) (a : Sl) (H : Heap) : wpF Try.prog Try.f61 [(28, .int .i64 0)] [] [(5, [28], [2, 26, 27])] [17] [.slice l.p l.n l.c, .bool high, .slice a.p a.n a.c] H R = F_allocate_covers R l high a H := by kernel_rfl

theorem F_allocate_covers_ok {R : Value → Heap → Prop} (l : Sl) (high : Bool) (a : Sl) {H : Heap} (h : F_allocate_covers R l high a H) : CallsH Try.prog n_allocate_covers #[.slice l.p l.n l.c, .bool high, .slice a.p a.n a.c] H R :=
  wpF_ok Try.func61 (F_allocate_covers_eq R l high a H) h

/-! ### 62: platformfw/allocate.inside -/

def F_allocate_inside_r1 (R : Value → Heap → Prop) (l : Sl) (base : Int) (size : Int) (I_ : Int → Heap → Prop) (M_ : Int → Heap → Nat) (x : Int) (H1 : Heap) : Prop :=
  iteB (decide (x < (l.n : Int))) (
  0 ≤ x ∧ x < (l.n : Int) ∧ (unSome l.p (fun a =>
  ∃ x1 : Int, rd H1 (a.add (x.toNat * 2)) = some (.int .u64 x1) ∧ ∃ x2 : Int, rd H1 ((a.add (x.toNat * 2)).add 1) = some (.int .u64 x2) ∧ (
  letH (H1.push (.cells #[.int .u64 (0 : Int), .int .u64 (0 : Int)] t_api_Range (0, 0))) (fun H2 : Heap =>
  okRow H2 (⟨H1.size, 0, none⟩ : Addr) 2 ∧ (
  letH (wrs H2 (⟨H1.size, 0, none⟩ : Addr) [.int .u64 x1, .int .u64 x2]) (fun H3 : Heap =>
  ∃ x3 : Int, rd H3 (⟨H1.size, 0, none⟩ : Addr) = some (.int .u64 x3) ∧ (
  iteB (decide (base ≥ x3)) (
  ∃ x4 : Int, rd H3 ((⟨H1.size, 0, none⟩ : Addr).add 1) = some (.int .u64 x4) ∧ (
  iteB (decide (size ≤ x4)) (
  ∃ x5 : Int, rd H3 (⟨H1.size, 0, none⟩ : Addr) = some (.int .u64 x5) ∧ (
  ∃ x6 : Int, rd H3 ((⟨H1.size, 0, none⟩ : Addr).add 1) = some (.int .u64 x6) ∧ (
  iteB (decide ((IntKind.u64.wrap (base - x5)) ≤ (IntKind.u64.wrap (x6 - size)))) (
  R (.bool true) H3) (
  I_ (IntKind.i64.wrap (x + (1 : Int))) H3 ∧ M_ (IntKind.i64.wrap (x + (1 : Int))) H3 < M_ x H1)))) (
  I_ (IntKind.i64.wrap (x + (1 : Int))) H3 ∧ M_ (IntKind.i64.wrap (x + (1 : Int))) H3 < M_ x H1))) (
  I_ (IntKind.i64.wrap (x + (1 : Int))) H3 ∧ M_ (IntKind.i64.wrap (x + (1 : Int))) H3 < M_ x H1))))))))) (
  R (.bool false) H1)

def F_allocate_inside (R : Value → Heap → Prop) (l : Sl) (base : Int) (size : Int) (H : Heap) : Prop :=
  ∃ I_ : Int → Heap → Prop, ∃ M_ : Int → Heap → Nat, I_ (0 : Int) H ∧ (∀ x : Int, ∀ H1 : Heap, I_ x H1 → F_allocate_inside_r1 R l base size I_ M_ x H1)

theorem F_allocate_inside_eq (R : Value → Heap → Prop) (l : Sl) (base : Int) (size : Int) (H : Heap) : wpF Try.prog Try.f62 [(11, .int .i64 0)] [] [(2, [11], [1, 2, 9, 10])] [17] [.slice l.p l.n l.c, .int .u64 base, .int .u64 size] H R = F_allocate_inside R l base size H := by kernel_rfl

theorem F_allocate_inside_ok {R : Value → Heap → Prop} (l : Sl) (base : Int) (size : Int) {H : Heap} (h : F_allocate_inside R l base size H) : CallsH Try.prog n_allocate_inside #[.slice l.p l.n l.c, .int .u64 base, .int .u64 size] H R :=
  wpF_ok Try.func62 (F_allocate_inside_eq R l base size H) h

/-! ### 63: platformfw/allocate.overlap -/

def F_allocate_overlap_k1 (R : Value → Heap → Prop) (H : Heap) (H1 : Heap) (H5 : Heap) : Prop :=
  ∃ x12 : Int, rd H5 ((⟨H.size, 0, none⟩ : Addr).add 4) = some (.int .u64 x12) ∧ (
  ∃ x13 : Int, rd H5 ((⟨H1.size, 0, none⟩ : Addr).add 4) = some (.int .u64 x13) ∧ (
  ∃ x14 : Int, rd H5 ((⟨H1.size, 0, none⟩ : Addr).add 3) = some (.int .i64 x14) ∧ (
  0 ≤ x14 ∧ (
  R (.bool (decide ((IntKind.u64.wrap (x12 - x13)) < (IntKind.u64.wrap ((1 : Int) * 2 ^ (min x14.toNat IntKind.u64.bits)))))) H5))))

def F_allocate_overlap (R : Value → Heap → Prop) (x_0 : Int) (x_1 : Int) (x_2 : Int) (x_3 : Int) (x_4 : Int) (y_0 : Int) (y_1 : Int) (y_2 : Int) (y_3 : Int) (y_4 : Int) (H : Heap) : Prop :=
  letH (H.push (.cells #[.int .i64 x_0, .int .i64 x_1, .int .i64 x_2, .int .i64 x_3, .int .u64 x_4] t_api_Assignment (0, 0))) (fun H1 : Heap =>
  letH (H1.push (.cells #[.int .i64 y_0, .int .i64 y_1, .int .i64 y_2, .int .i64 y_3, .int .u64 y_4] t_api_Assignment (0, 0))) (fun H2 : Heap =>
  ∃ J_ : Heap → Prop, (
  ∃ x : Int, rd H2 ((⟨H.size, 0, none⟩ : Addr).add 4) = some (.int .u64 x) ∧ (
  ∃ x1 : Int, rd H2 ((⟨H1.size, 0, none⟩ : Addr).add 4) = some (.int .u64 x1) ∧ (
  iteB (decide (x < x1)) (
  ∃ x2 : Int, rd H2 (⟨H1.size, 0, none⟩ : Addr) = some (.int .i64 x2) ∧ ∃ x3 : Int, rd H2 ((⟨H1.size, 0, none⟩ : Addr).add 1) = some (.int .i64 x3) ∧ ∃ x4 : Int, rd H2 ((⟨H1.size, 0, none⟩ : Addr).add 2) = some (.int .i64 x4) ∧ ∃ x5 : Int, rd H2 ((⟨H1.size, 0, none⟩ : Addr).add 3) = some (.int .i64 x5) ∧ ∃ x6 : Int, rd H2 ((⟨H1.size, 0, none⟩ : Addr).add 4) = some (.int .u64 x6) ∧ (
  ∃ x7 : Int, rd H2 (⟨H.size, 0, none⟩ : Addr) = some (.int .i64 x7) ∧ ∃ x8 : Int, rd H2 ((⟨H.size, 0, none⟩ : Addr).add 1) = some (.int .i64 x8) ∧ ∃ x9 : Int, rd H2 ((⟨H.size, 0, none⟩ : Addr).add 2) = some (.int .i64 x9) ∧ ∃ x10 : Int, rd H2 ((⟨H.size, 0, none⟩ : Addr).add 3) = some (.int .i64 x10) ∧ ∃ x11 : Int, rd H2 ((⟨H.size, 0, none⟩ : Addr).add 4) = some (.int .u64 x11) ∧ (
  okRow H2 (⟨H.size, 0, none⟩ : Addr) 5 ∧ (
  letH (wrs H2 (⟨H.size, 0, none⟩ : Addr) [.int .i64 x2, .int .i64 x3, .int .i64 x4, .int .i64 x5, .int .u64 x6]) (fun H3 : Heap =>
  okRow H3 (⟨H1.size, 0, none⟩ : Addr) 5 ∧ (
  letH (wrs H3 (⟨H1.size, 0, none⟩ : Addr) [.int .i64 x7, .int .i64 x8, .int .i64 x9, .int .i64 x10, .int .u64 x11]) (fun H4 : Heap =>
  J_ H4))))))) (
  J_ H2)))) ∧ (∀ H5 : Heap, J_ H5 → F_allocate_overlap_k1 R H H1 H5)))

theorem F_allocate_overlap_eq (R : Value → Heap → Prop) (x_0 : Int) (x_1 : Int) (x_2 : Int) (x_3 : Int) (x_4 : Int) (y_0 : Int) (y_1 : Int) (y_2 : Int) (y_3 : Int) (y_4 : Int) (H : Heap) : wpF Try.prog Try.f63 [] [(3, [], [2, 3])] [] [17] [.agg #[.int .i64 x_0, .int .i64 x_1, .int .i64 x_2, .int .i64 x_3, .int .u64 x_4], .agg #[.int .i64 y_0, .int .i64 y_1, .int .i64 y_2, .int .i64 y_3, .int .u64 y_4]] H R = F_allocate_overlap R x_0 x_1 x_2 x_3 x_4 y_0 y_1 y_2 y_3 y_4 H := by kernel_rfl

theorem F_allocate_overlap_ok {R : Value → Heap → Prop} (x_0 : Int) (x_1 : Int) (x_2 : Int) (x_3 : Int) (x_4 : Int) (y_0 : Int) (y_1 : Int) (y_2 : Int) (y_3 : Int) (y_4 : Int) {H : Heap} (h : F_allocate_overlap R x_0 x_1 x_2 x_3 x_4 y_0 y_1 y_2 y_3 y_4 H) : CallsH Try.prog n_allocate_overlap #[.agg #[.int .i64 x_0, .int .i64 x_1, .int .i64 x_2, .int .i64 x_3, .int .u64 x_4], .agg #[.int .i64 y_0, .int .i64 y_1, .int .i64 y_2, .int .i64 y_3, .int .u64 y_4]] H R :=
  wpF_ok Try.func63 (F_allocate_overlap_eq R x_0 x_1 x_2 x_3 x_4 y_0 y_1 y_2 y_3 y_4 H) h

/-! ### 64: platformfw/platformfwref21.ValidHost -/

def F_ref21_ValidHost_r1 (R : Value → Heap → Prop) (H : Heap) (I_ : Int → Heap → Prop) (M_ : Int → Heap → Nat) (i : Int) (H7 : Heap) : Prop :=
  ∃ x14 : Sl, rd H7 ((⟨H.size, 0, none⟩ : Addr).add 7) = some (.slice x14.p x14.n x14.c) ∧ (
  iteB (decide (i < (x14.n : Int))) (
  ∃ x15 : Sl, rd H7 ((⟨H.size, 0, none⟩ : Addr).add 7) = some (.slice x15.p x15.n x15.c) ∧ (
  0 ≤ i ∧ i < (x15.n : Int) ∧ (unSome x15.p (fun a =>
  ∃ x16 : Int, rd H7 (a.add (i.toNat * 3)) = some (.int .i64 x16) ∧ ∃ x17 : Int, rd H7 ((a.add (i.toNat * 3)).add 1) = some (.int .i64 x17) ∧ ∃ x18 : Int, rd H7 ((a.add (i.toNat * 3)).add 2) = some (.int .i64 x18) ∧ (
  letH (H7.push (.cells #[.int .i64 (0 : Int), .int .i64 (0 : Int), .int .i64 (0 : Int)] t_api_Route (0, 0))) (fun H8 : Heap =>
  okRow H8 (⟨H7.size, 0, none⟩ : Addr) 3 ∧ (
  letH (wrs H8 (⟨H7.size, 0, none⟩ : Addr) [.int .i64 x16, .int .i64 x17, .int .i64 x18]) (fun H9 : Heap =>
  ∃ x19 : Int, rd H9 (⟨H7.size, 0, none⟩ : Addr) = some (.int .i64 x19) ∧ (
  iteB (decide (x19 < (0 : Int))) (
  R (.bool false) H9) (
  ∃ x20 : Int, rd H9 (⟨H7.size, 0, none⟩ : Addr) = some (.int .i64 x20) ∧ (
  iteB (decide (x20 > (31 : Int))) (
  R (.bool false) H9) (
  ∃ x21 : Int, rd H9 ((⟨H7.size, 0, none⟩ : Addr).add 1) = some (.int .i64 x21) ∧ (
  iteB (decide (x21 < (1 : Int))) (
  R (.bool false) H9) (
  ∃ x22 : Int, rd H9 ((⟨H7.size, 0, none⟩ : Addr).add 1) = some (.int .i64 x22) ∧ (
  iteB (decide (x22 > (4 : Int))) (
  R (.bool false) H9) (
  ∃ x23 : Int, rd H9 ((⟨H7.size, 0, none⟩ : Addr).add 2) = some (.int .i64 x23) ∧ (
  iteB (decide (x23 < (0 : Int))) (
  R (.bool false) H9) (
  ∃ x24 : Int, rd H9 ((⟨H7.size, 0, none⟩ : Addr).add 2) = some (.int .i64 x24) ∧ (
  ∃ x25 : Sl, rd H9 ((⟨H.size, 0, none⟩ : Addr).add 6) = some (.slice x25.p x25.n x25.c) ∧ (
  iteB (decide (x24 ≥ (x25.n : Int))) (
  R (.bool false) H9) (
  letV (IntKind.i64.wrap (i + (1 : Int))) (fun i1 : Int =>
  I_ i1 H9 ∧ M_ i1 H9 < M_ i H7)))))))))))))))))))))) (
  R (.bool true) H7))

def F_ref21_ValidHost (R : Value → Heap → Prop) (h_0 : Int) (h_1 : Sl) (h_2 : Sl) (h_3 : Sl) (h_4 : Sl) (h_5 : Sl) (h_6 : Sl) (h_7 : Sl) (H : Heap) : Prop :=
  letH (H.push (.cells #[.int .i64 h_0, .slice h_1.p h_1.n h_1.c, .slice h_2.p h_2.n h_2.c, .slice h_3.p h_3.n h_3.c, .slice h_4.p h_4.n h_4.c, .slice h_5.p h_5.n h_5.c, .slice h_6.p h_6.n h_6.c, .slice h_7.p h_7.n h_7.c] t_api_Host (0, 0))) (fun H1 : Heap =>
  ∃ x : Int, rd H1 (⟨H.size, 0, none⟩ : Addr) = some (.int .i64 x) ∧ (
  iteB (decide (x < (1 : Int))) (
  R (.bool false) H1) (
  ∃ x1 : Int, rd H1 (⟨H.size, 0, none⟩ : Addr) = some (.int .i64 x1) ∧ (
  iteB (decide (x1 > (256 : Int))) (
  R (.bool false) H1) (
  ∃ x2 : Sl, rd H1 ((⟨H.size, 0, none⟩ : Addr).add 6) = some (.slice x2.p x2.n x2.c) ∧ (
  iteB (decide ((x2.n : Int) > (16 : Int))) (
  R (.bool false) H1) (
  ∃ x3 : Sl, rd H1 ((⟨H.size, 0, none⟩ : Addr).add 7) = some (.slice x3.p x3.n x3.c) ∧ (
  iteB (decide ((x3.n : Int) > (128 : Int))) (
  R (.bool false) H1) (
  ∃ x4 : Sl, rd H1 ((⟨H.size, 0, none⟩ : Addr).add 1) = some (.slice x4.p x4.n x4.c) ∧ (
  CallsH Try.prog n_ref21_within #[.slice x4.p x4.n x4.c, .int .u64 (0 : Int), .int .u64 (65536 : Int)] H1 (fun v H2 =>
  ∃ x5 : Bool, v = .bool x5 ∧ (
  iteB (!x5) (
  R (.bool false) H2) (
  ∃ x6 : Sl, rd H2 ((⟨H.size, 0, none⟩ : Addr).add 4) = some (.slice x6.p x6.n x6.c) ∧ (
  CallsH Try.prog n_ref21_within #[.slice x6.p x6.n x6.c, .int .u64 (0 : Int), .int .u64 (65536 : Int)] H2 (fun v1 H3 =>
  ∃ x7 : Bool, v1 = .bool x7 ∧ (
  iteB (!x7) (
  R (.bool false) H3) (
  ∃ x8 : Sl, rd H3 ((⟨H.size, 0, none⟩ : Addr).add 2) = some (.slice x8.p x8.n x8.c) ∧ (
  CallsH Try.prog n_ref21_within #[.slice x8.p x8.n x8.c, .int .u64 (0 : Int), .int .u64 (4294967296 : Int)] H3 (fun v2 H4 =>
  ∃ x9 : Bool, v2 = .bool x9 ∧ (
  iteB (!x9) (
  R (.bool false) H4) (
  ∃ x10 : Sl, rd H4 ((⟨H.size, 0, none⟩ : Addr).add 5) = some (.slice x10.p x10.n x10.c) ∧ (
  CallsH Try.prog n_ref21_within #[.slice x10.p x10.n x10.c, .int .u64 (0 : Int), .int .u64 (4503599627370496 : Int)] H4 (fun v3 H5 =>
  ∃ x11 : Bool, v3 = .bool x11 ∧ (
  iteB (!x11) (
  R (.bool false) H5) (
  ∃ x12 : Sl, rd H5 ((⟨H.size, 0, none⟩ : Addr).add 3) = some (.slice x12.p x12.n x12.c) ∧ (
  CallsH Try.prog n_ref21_within #[.slice x12.p x12.n x12.c, .int .u64 (4294967296 : Int), .int .u64 (4503599627370496 : Int)] H5 (fun v4 H6 =>
  ∃ x13 : Bool, v4 = .bool x13 ∧ (
  iteB (!x13) (
  R (.bool false) H6) (
  ∃ I_ : Int → Heap → Prop, ∃ M_ : Int → Heap → Nat, I_ (0 : Int) H6 ∧ (∀ i : Int, ∀ H7 : Heap, I_ i H7 → F_ref21_ValidHost_r1 R H I_ M_ i H7))))))))))))))))))))))))))))))

theorem F_ref21_ValidHost_eq (R : Value → Heap → Prop) (h_0 : Int) (h_1 : Sl) (h_2 : Sl) (h_3 : Sl) (h_4 : Sl) (h_5 : Sl) (h_6 : Sl) (h_7 : Sl) (H : Heap) : wpF Try.prog Try.f64 [(3, .int .i64 0)] [] [(6, [3], [1])] [17] [.agg #[.int .i64 h_0, .slice h_1.p h_1.n h_1.c, .slice h_2.p h_2.n h_2.c, .slice h_3.p h_3.n h_3.c, .slice h_4.p h_4.n h_4.c, .slice h_5.p h_5.n h_5.c, .slice h_6.p h_6.n h_6.c, .slice h_7.p h_7.n h_7.c]] H R = F_ref21_ValidHost R h_0 h_1 h_2 h_3 h_4 h_5 h_6 h_7 H := by kernel_rfl

theorem F_ref21_ValidHost_ok {R : Value → Heap → Prop} (h_0 : Int) (h_1 : Sl) (h_2 : Sl) (h_3 : Sl) (h_4 : Sl) (h_5 : Sl) (h_6 : Sl) (h_7 : Sl) {H : Heap} (h : F_ref21_ValidHost R h_0 h_1 h_2 h_3 h_4 h_5 h_6 h_7 H) : CallsH Try.prog n_ref21_ValidHost #[.agg #[.int .i64 h_0, .slice h_1.p h_1.n h_1.c, .slice h_2.p h_2.n h_2.c, .slice h_3.p h_3.n h_3.c, .slice h_4.p h_4.n h_4.c, .slice h_5.p h_5.n h_5.c, .slice h_6.p h_6.n h_6.c, .slice h_7.p h_7.n h_7.c]] H R :=
  wpF_ok Try.func64 (F_ref21_ValidHost_eq R h_0 h_1 h_2 h_3 h_4 h_5 h_6 h_7 H) h

/-! ### 65: platformfw/platformfwref21.span -/

def F_ref21_span (R : Value → Heap → Prop) (a_0 : Int) (a_1 : Int) (a_2 : Int) (a_3 : Int) (a_4 : Int) (H : Heap) : Prop :=
  letH (H.push (.cells #[.int .i64 a_0, .int .i64 a_1, .int .i64 a_2, .int .i64 a_3, .int .u64 a_4] t_api_Assignment (0, 0))) (fun H1 : Heap =>
  letH (H1.push (.cells #[.int .u64 (0 : Int), .int .u64 (0 : Int)] t_api_Range (0, 0))) (fun H2 : Heap =>
  ∃ x : Int, rd H2 ((⟨H.size, 0, none⟩ : Addr).add 4) = some (.int .u64 x) ∧ (
  ∃ x1 : Int, rd H2 ((⟨H.size, 0, none⟩ : Addr).add 3) = some (.int .i64 x1) ∧ (
  0 ≤ (IntKind.u64.wrap x1) ∧ (
  okRow H2 (⟨H1.size, 0, none⟩ : Addr) 2 ∧ (
  letH (wrs H2 (⟨H1.size, 0, none⟩ : Addr) [.int .u64 x, .int .u64 (IntKind.u64.wrap ((1 : Int) * 2 ^ (min (IntKind.u64.wrap x1).toNat IntKind.u64.bits)))]) (fun H3 : Heap =>
  ∃ r : Int, rd H3 (⟨H1.size, 0, none⟩ : Addr) = some (.int .u64 r) ∧ ∃ r1 : Int, rd H3 ((⟨H1.size, 0, none⟩ : Addr).add 1) = some (.int .u64 r1) ∧ (
  R (.agg #[.int .u64 r, .int .u64 r1]) H3))))))))

theorem F_ref21_span_eq (R : Value → Heap → Prop) (a_0 : Int) (a_1 : Int) (a_2 : Int) (a_3 : Int) (a_4 : Int) (H : Heap) : wpF Try.prog Try.f65 [] [] [] [17] [.agg #[.int .i64 a_0, .int .i64 a_1, .int .i64 a_2, .int .i64 a_3, .int .u64 a_4]] H R = F_ref21_span R a_0 a_1 a_2 a_3 a_4 H := by kernel_rfl

theorem F_ref21_span_ok {R : Value → Heap → Prop} (a_0 : Int) (a_1 : Int) (a_2 : Int) (a_3 : Int) (a_4 : Int) {H : Heap} (h : F_ref21_span R a_0 a_1 a_2 a_3 a_4 H) : CallsH Try.prog n_ref21_span #[.agg #[.int .i64 a_0, .int .i64 a_1, .int .i64 a_2, .int .i64 a_3, .int .u64 a_4]] H R :=
  wpF_ok Try.func65 (F_ref21_span_eq R a_0 a_1 a_2 a_3 a_4 H) h

/-! ### 66: platformfw/platformfwref21.at -/

def F_ref21_at_r1 (R : Value → Heap → Prop) (a : Sl) (f : Int) (index : Int) (I_ : Int → Heap → Prop) (M_ : Int → Heap → Nat) (i : Int) (H1 : Heap) : Prop :=
  iteB (decide (i < (a.n : Int))) (
  0 ≤ i ∧ i < (a.n : Int) ∧ (unSome a.p (fun a1 =>
  ∃ x : Int, rd H1 (a1.add (i.toNat * 5)) = some (.int .i64 x) ∧ (
  iteB (x == f) (
  0 ≤ i ∧ i < (a.n : Int) ∧ (unSome a.p (fun a2 =>
  ∃ x1 : Int, rd H1 ((a2.add (i.toNat * 5)).add 1) = some (.int .i64 x1) ∧ (
  iteB (x1 == index) (
  R (.int .i64 i) H1) (
  letV (IntKind.i64.wrap (i + (1 : Int))) (fun i1 : Int =>
  I_ i1 H1 ∧ M_ i1 H1 < M_ i H1)))))) (
  letV (IntKind.i64.wrap (i + (1 : Int))) (fun i2 : Int =>
  I_ i2 H1 ∧ M_ i2 H1 < M_ i H1)))))) (
  R (.int .i64 (-1 : Int)) H1)

def F_ref21_at (R : Value → Heap → Prop) (a : Sl) (f : Int) (index : Int) (H : Heap) : Prop :=
  ∃ I_ : Int → Heap → Prop, ∃ M_ : Int → Heap → Nat, I_ (0 : Int) H ∧ (∀ i : Int, ∀ H1 : Heap, I_ i H1 → F_ref21_at_r1 R a f index I_ M_ i H1)

theorem F_ref21_at_eq (R : Value → Heap → Prop) (a : Sl) (f : Int) (index : Int) (H : Heap) : wpF Try.prog Try.f66 [(7, .int .i64 0)] [] [(2, [7], [0, 1, 2])] [17] [.slice a.p a.n a.c, .int .i64 f, .int .i64 index] H R = F_ref21_at R a f index H := by kernel_rfl

theorem F_ref21_at_ok {R : Value → Heap → Prop} (a : Sl) (f : Int) (index : Int) {H : Heap} (h : F_ref21_at R a f index H) : CallsH Try.prog n_ref21_at #[.slice a.p a.n a.c, .int .i64 f, .int .i64 index] H R :=
  wpF_ok Try.func66 (F_ref21_at_eq R a f index H) h

/-! ### 67: platformfw/platformfwref21.inside -/

def F_ref21_inside_r1 (R : Value → Heap → Prop) (H : Heap) (free : Sl) (I_ : Int → Heap → Prop) (M_ : Int → Heap → Nat) (i : Int) (H2 : Heap) : Prop :=
  iteB (decide (i < (free.n : Int))) (
  ∃ x : Int, rd H2 (⟨H.size, 0, none⟩ : Addr) = some (.int .u64 x) ∧ (
  0 ≤ i ∧ i < (free.n : Int) ∧ (unSome free.p (fun a =>
  ∃ x1 : Int, rd H2 (a.add (i.toNat * 2)) = some (.int .u64 x1) ∧ (
  iteB (decide (x ≥ x1)) (
  ∃ x2 : Int, rd H2 (⟨H.size, 0, none⟩ : Addr) = some (.int .u64 x2) ∧ (
  0 ≤ i ∧ i < (free.n : Int) ∧ (unSome free.p (fun a1 =>
  ∃ x3 : Int, rd H2 (a1.add (i.toNat * 2)) = some (.int .u64 x3) ∧ (
  0 ≤ i ∧ i < (free.n : Int) ∧ (unSome free.p (fun a2 =>
  ∃ x4 : Int, rd H2 ((a2.add (i.toNat * 2)).add 1) = some (.int .u64 x4) ∧ (
  iteB (decide ((IntKind.u64.wrap (x2 - x3)) ≤ x4)) (
  ∃ x5 : Int, rd H2 ((⟨H.size, 0, none⟩ : Addr).add 1) = some (.int .u64 x5) ∧ (
  0 ≤ i ∧ i < (free.n : Int) ∧ (unSome free.p (fun a3 =>
  ∃ x6 : Int, rd H2 ((a3.add (i.toNat * 2)).add 1) = some (.int .u64 x6) ∧ (
  ∃ x7 : Int, rd H2 (⟨H.size, 0, none⟩ : Addr) = some (.int .u64 x7) ∧ (
  0 ≤ i ∧ i < (free.n : Int) ∧ (unSome free.p (fun a4 =>
  ∃ x8 : Int, rd H2 (a4.add (i.toNat * 2)) = some (.int .u64 x8) ∧ (
  iteB (decide (x5 ≤ (IntKind.u64.wrap (x6 - (IntKind.u64.wrap (x7 - x8)))))) (
  R (.bool true) H2) (
  letV (IntKind.i64.wrap (i + (1 : Int))) (fun i1 : Int =>
  I_ i1 H2 ∧ M_ i1 H2 < M_ i H2))))))))))) (
  letV (IntKind.i64.wrap (i + (1 : Int))) (fun i2 : Int =>
  I_ i2 H2 ∧ M_ i2 H2 < M_ i H2)))))))))) (
  letV (IntKind.i64.wrap (i + (1 : Int))) (fun i3 : Int =>
  I_ i3 H2 ∧ M_ i3 H2 < M_ i H2))))))) (
  R (.bool false) H2)

def F_ref21_inside (R : Value → Heap → Prop) (free : Sl) (x_0 : Int) (x_1 : Int) (H : Heap) : Prop :=
  letH (H.push (.cells #[.int .u64 x_0, .int .u64 x_1] t_api_Range (0, 0))) (fun H1 : Heap =>
  ∃ I_ : Int → Heap → Prop, ∃ M_ : Int → Heap → Nat, I_ (0 : Int) H1 ∧ (∀ i : Int, ∀ H2 : Heap, I_ i H2 → F_ref21_inside_r1 R H free I_ M_ i H2))

theorem F_ref21_inside_eq (R : Value → Heap → Prop) (free : Sl) (x_0 : Int) (x_1 : Int) (H : Heap) : wpF Try.prog Try.f67 [(5, .int .i64 0)] [] [(2, [5], [0, 3])] [17] [.slice free.p free.n free.c, .agg #[.int .u64 x_0, .int .u64 x_1]] H R = F_ref21_inside R free x_0 x_1 H := by kernel_rfl

theorem F_ref21_inside_ok {R : Value → Heap → Prop} (free : Sl) (x_0 : Int) (x_1 : Int) {H : Heap} (h : F_ref21_inside R free x_0 x_1 H) : CallsH Try.prog n_ref21_inside #[.slice free.p free.n free.c, .agg #[.int .u64 x_0, .int .u64 x_1]] H R :=
  wpF_ok Try.func67 (F_ref21_inside_eq R free x_0 x_1 H) h

/-! ### 68: slices.stableCmpFunc[int] -/

def F_slices_stableCmpFunc_int_r1 (data : Sl) (n : Int) (cap : Addr) (I_1 : Int → Heap → Prop) (M_1 : Int → Heap → Nat) (blockSize : Int) (H4 : Heap) (I_2 : Int → Int → Heap → Prop) (M_2 : Int → Int → Heap → Nat) (a1 : Int) (b3 : Int) (H5 : Heap) : Prop :=
  iteB (decide (b3 ≤ n)) (
  CallsH Try.prog n_slices_symMergeCmpFunc_int #[.slice data.p data.n data.c, .int .i64 a1, .int .i64 (IntKind.i64.wrap (a1 + blockSize)), .int .i64 b3, .func (.func 35) #[] #[.pointer (some cap)]] H5 (fun v2 H6 =>
  v2 = .tuple #[] ∧ (
  letV (IntKind.i64.wrap (b3 + (IntKind.i64.wrap ((2 : Int) * blockSize)))) (fun b4 : Int =>
  I_2 b3 b4 H6 ∧ M_2 b3 b4 H6 < M_2 a1 b3 H5)))) (
  letV (IntKind.i64.wrap (a1 + blockSize)) (fun m : Int =>
  iteB (decide (m < n)) (
  CallsH Try.prog n_slices_symMergeCmpFunc_int #[.slice data.p data.n data.c, .int .i64 a1, .int .i64 m, .int .i64 n, .func (.func 35) #[] #[.pointer (some cap)]] H5 (fun v3 H7 =>
  v3 = .tuple #[] ∧ (
  letV (IntKind.i64.wrap (blockSize * (2 : Int))) (fun blockSize1 : Int =>
  I_1 blockSize1 H7 ∧ M_1 blockSize1 H7 < M_1 blockSize H4)))) (
  letV (IntKind.i64.wrap (blockSize * (2 : Int))) (fun blockSize2 : Int =>
  I_1 blockSize2 H5 ∧ M_1 blockSize2 H5 < M_1 blockSize H4))))

def F_slices_stableCmpFunc_int_r2 (R : Value → Heap → Prop) (data : Sl) (n : Int) (cap : Addr) (I_1 : Int → Heap → Prop) (M_1 : Int → Heap → Nat) (blockSize : Int) (H4 : Heap) : Prop :=
  iteB (decide (blockSize < n)) (
  letV (IntKind.i64.wrap ((2 : Int) * blockSize)) (fun b2 : Int =>
  ∃ I_2 : Int → Int → Heap → Prop, ∃ M_2 : Int → Int → Heap → Nat, I_2 (0 : Int) b2 H4 ∧ (∀ a1 : Int, ∀ b3 : Int, ∀ H5 : Heap, I_2 a1 b3 H5 → F_slices_stableCmpFunc_int_r1 data n cap I_1 M_1 blockSize H4 I_2 M_2 a1 b3 H5))) (
  R (.tuple #[]) H4)

def F_slices_stableCmpFunc_int_r3 (R : Value → Heap → Prop) (data : Sl) (n : Int) (cap : Addr) (I_ : Int → Int → Heap → Prop) (M_ : Int → Int → Heap → Nat) (a : Int) (b : Int) (H1 : Heap) : Prop :=
  iteB (decide (b ≤ n)) (
  CallsH Try.prog n_slices_insertionSortCmpFunc_int #[.slice data.p data.n data.c, .int .i64 a, .int .i64 b, .func (.func 35) #[] #[.pointer (some cap)]] H1 (fun v H2 =>
  v = .tuple #[] ∧ (
  letV (IntKind.i64.wrap (b + (20 : Int))) (fun b1 : Int =>
  I_ b b1 H2 ∧ M_ b b1 H2 < M_ a b H1)))) (
  CallsH Try.prog n_slices_insertionSortCmpFunc_int #[.slice data.p data.n data.c, .int .i64 a, .int .i64 n, .func (.func 35) #[] #[.pointer (some cap)]] H1 (fun v1 H3 =>
  v1 = .tuple #[] ∧ (
  ∃ I_1 : Int → Heap → Prop, ∃ M_1 : Int → Heap → Nat, I_1 (20 : Int) H3 ∧ (∀ blockSize : Int, ∀ H4 : Heap, I_1 blockSize H4 → F_slices_stableCmpFunc_int_r2 R data n cap I_1 M_1 blockSize H4))))

def F_slices_stableCmpFunc_int (R : Value → Heap → Prop) (data : Sl) (n : Int) (cap : Addr) (H : Heap) : Prop :=
  ∃ I_ : Int → Int → Heap → Prop, ∃ M_ : Int → Int → Heap → Nat, I_ (0 : Int) (20 : Int) H ∧ (∀ a : Int, ∀ b : Int, ∀ H1 : Heap, I_ a b H1 → F_slices_stableCmpFunc_int_r3 R data n cap I_ M_ a b H1)

theorem F_slices_stableCmpFunc_int_eq (R : Value → Heap → Prop) (data : Sl) (n : Int) (cap : Addr) (H : Heap) : wpF Try.prog Try.f68 [(6, .int .i64 0), (7, .int .i64 0), (8, .int .i64 0)] [] [(2, [7, 8], [0, 1, 2, 6]), (7, [6], [0, 1, 2]), (9, [7, 8], [0, 1, 2, 6])] [17] [.slice data.p data.n data.c, .int .i64 n, .func (.func 35) #[] #[.pointer (some cap)]] H R = F_slices_stableCmpFunc_int R data n cap H := by kernel_rfl

theorem F_slices_stableCmpFunc_int_ok {R : Value → Heap → Prop} (data : Sl) (n : Int) (cap : Addr) {H : Heap} (h : F_slices_stableCmpFunc_int R data n cap H) : CallsH Try.prog n_slices_stableCmpFunc_int #[.slice data.p data.n data.c, .int .i64 n, .func (.func 35) #[] #[.pointer (some cap)]] H R :=
  wpF_ok Try.func68 (F_slices_stableCmpFunc_int_eq R data n cap H) h

/-! ### 69: cmp.isNaN[int] -/

def F_cmp_isNaN_int (R : Value → Heap → Prop) (x : Int) (H : Heap) : Prop :=
  R (.bool (x != x)) H

theorem F_cmp_isNaN_int_eq (R : Value → Heap → Prop) (x : Int) (H : Heap) : wpF Try.prog Try.f69 [] [] [] [17] [.int .i64 x] H R = F_cmp_isNaN_int R x H := by kernel_rfl

theorem F_cmp_isNaN_int_ok {R : Value → Heap → Prop} (x : Int) {H : Heap} (h : F_cmp_isNaN_int R x H) : CallsH Try.prog n_cmp_isNaN_int #[.int .i64 x] H R :=
  wpF_ok Try.func69 (F_cmp_isNaN_int_eq R x H) h

/-! ### 70: slices.Clone[[]platformfw/api.Range,platformfw/api.Range] -/

def F_slices_Clone_sl_api_Range_api_Range (R : Value → Heap → Prop) (s : Sl) (H : Heap) : Prop :=
  iteB s.p.isNone (
  R (.slice none 0 0) H) (
  letH (H.push (.cells #[] t_api_Range (0, 0))) (fun H1 : Heap =>
  runH Try.prog (Builtin.append_ #[t_sl_api_Range, t_sl_api_Range] t_sl_api_Range #[.slice (some (⟨H.size, 0, none⟩ : Addr)) 0 0, .slice s.p s.n s.c]) H1 (fun v H2 =>
  ∃ x : Sl, v = .slice x.p x.n x.c ∧ (
  R (.slice x.p x.n x.c) H2))))

theorem F_slices_Clone_sl_api_Range_api_Range_eq (R : Value → Heap → Prop) (s : Sl) (H : Heap) : wpF Try.prog Try.f70 [] [] [] [17] [.slice s.p s.n s.c] H R = F_slices_Clone_sl_api_Range_api_Range R s H := by kernel_rfl

theorem F_slices_Clone_sl_api_Range_api_Range_ok {R : Value → Heap → Prop} (s : Sl) {H : Heap} (h : F_slices_Clone_sl_api_Range_api_Range R s H) : CallsH Try.prog n_slices_Clone_sl_api_Range_api_Range #[.slice s.p s.n s.c] H R :=
  wpF_ok Try.func70 (F_slices_Clone_sl_api_Range_api_Range_eq R s H) h

/-! ### 73: cmp.Compare[uint64] -/

def F_cmp_Compare_uint64 (R : Value → Heap → Prop) (x : Int) (y : Int) (H : Heap) : Prop :=
  CallsH Try.prog n_cmp_isNaN_uint64 #[.int .u64 x] H (fun v H1 =>
  ∃ xNaN : Bool, v = .bool xNaN ∧ (
  CallsH Try.prog n_cmp_isNaN_uint64 #[.int .u64 y] H1 (fun v1 H2 =>
  ∃ yNaN : Bool, v1 = .bool yNaN ∧ (
  iteB xNaN (
  iteB yNaN (
  R (.int .i64 (0 : Int)) H2) (
  R (.int .i64 (-1 : Int)) H2)) (
  iteB yNaN (
  R (.int .i64 (1 : Int)) H2) (
  iteB (decide (x < y)) (
  R (.int .i64 (-1 : Int)) H2) (
  iteB (decide (x > y)) (
  R (.int .i64 (1 : Int)) H2) (
  R (.int .i64 (0 : Int)) H2))))))))

theorem F_cmp_Compare_uint64_eq (R : Value → Heap → Prop) (x : Int) (y : Int) (H : Heap) : wpF Try.prog Try.f73 [] [] [] [17] [.int .u64 x, .int .u64 y] H R = F_cmp_Compare_uint64 R x y H := by kernel_rfl

theorem F_cmp_Compare_uint64_ok {R : Value → Heap → Prop} (x : Int) (y : Int) {H : Heap} (h : F_cmp_Compare_uint64 R x y H) : CallsH Try.prog n_cmp_Compare_uint64 #[.int .u64 x, .int .u64 y] H R :=
  wpF_ok Try.func73 (F_cmp_Compare_uint64_eq R x y H) h

/-! ### 74: slices.Replace[[]platformfw/api.Range,platformfw/api.Range] -/

def F_slices_Replace_sl_api_Range_api_Range (R : Value → Heap → Prop) (s : Sl) (i : Int) (j : Int) (v : Sl) (H : Heap) : Prop :=
  0 ≤ j ∧ j ≤ (s.c : Int) ∧ (
  0 ≤ i ∧ i ≤ (j.toNat : Int) ∧ (
  iteB (i == j) (
  CallsH Try.prog n_slices_Insert_sl_api_Range_api_Range #[.slice s.p s.n s.c, .int .i64 i, .slice v.p v.n v.c] H (fun v1 H1 =>
  ∃ x : Sl, v1 = .slice x.p x.n x.c ∧ (
  R (.slice x.p x.n x.c) H1))) (
  iteB (j == (s.n : Int)) (
  0 ≤ i ∧ i ≤ (s.c : Int) ∧ (
  runH Try.prog (Builtin.append_ #[t_sl_api_Range, t_sl_api_Range] t_sl_api_Range #[.slice (slP s.p s.c 0 2) (i.toNat - 0) (s.c - 0), .slice v.p v.n v.c]) H (fun v2 H2 =>
  ∃ s2 : Sl, v2 = .slice s2.p s2.n s2.c ∧ (
  iteB (decide ((s2.n : Int) < (s.n : Int))) (
  0 ≤ (s2.n : Int) ∧ (s2.n : Int) ≤ (s.n : Int) ∧ (
  runH Try.prog (Builtin.clear_ #[t_sl_api_Range] 0 #[.slice (slP s.p s.c ((s2.n : Int).toNat) 2) (s.n - (s2.n : Int).toNat) (s.c - (s2.n : Int).toNat)]) H2 (fun v3 H3 =>
  v3 = .tuple #[] ∧ (
  R (.slice s2.p s2.n s2.c) H3)))) (
  R (.slice s2.p s2.n s2.c) H2))))) (
  0 ≤ i ∧ i ≤ (s.c : Int) ∧ (
  0 ≤ j ∧ j ≤ (s.n : Int) ∧ (
  letV (IntKind.i64.wrap ((IntKind.i64.wrap ((((i.toNat - 0) : Nat) : Int) + (v.n : Int))) + (((s.n - j.toNat) : Nat) : Int))) (fun tot : Int =>
  iteB (decide (tot > (s.c : Int))) (
  0 ≤ i ∧ i ≤ (s.c : Int) ∧ (
  runH Try.prog (Builtin.append_ #[t_sl_api_Range, t_int] t_sl_api_Range #[.slice (slP s.p s.c 0 2) (i.toNat - 0) (s.c - 0), .int .i64 (IntKind.i64.wrap (tot - i))]) H (fun v4 H4 =>
  ∃ s21 : Sl, v4 = .slice s21.p s21.n s21.c ∧ (
  0 ≤ i ∧ i ≤ (s21.n : Int) ∧ (
  runH Try.prog (Builtin.copy_ #[t_sl_api_Range, t_sl_api_Range] t_int #[.slice (slP s21.p s21.c i.toNat 2) (s21.n - i.toNat) (s21.c - i.toNat), .slice v.p v.n v.c]) H4 (fun v5 H5 =>
  ∃ x1 : Int, v5 = .int .i64 x1 ∧ (
  0 ≤ (IntKind.i64.wrap (i + (v.n : Int))) ∧ (IntKind.i64.wrap (i + (v.n : Int))) ≤ (s21.n : Int) ∧ (
  0 ≤ j ∧ j ≤ (s.n : Int) ∧ (
  runH Try.prog (Builtin.copy_ #[t_sl_api_Range, t_sl_api_Range] t_int #[.slice (slP s21.p s21.c ((IntKind.i64.wrap (i + (v.n : Int))).toNat) 2) (s21.n - (IntKind.i64.wrap (i + (v.n : Int))).toNat) (s21.c - (IntKind.i64.wrap (i + (v.n : Int))).toNat), .slice (slP s.p s.c j.toNat 2) (s.n - j.toNat) (s.c - j.toNat)]) H5 (fun v6 H6 =>
  ∃ x2 : Int, v6 = .int .i64 x2 ∧ (
  R (.slice s21.p s21.n s21.c) H6))))))))))) (
  0 ≤ tot ∧ tot ≤ (s.c : Int) ∧ (
  iteB (decide ((IntKind.i64.wrap (i + (v.n : Int))) ≤ j)) (
  0 ≤ i ∧ i ≤ (((tot.toNat - 0) : Nat) : Int) ∧ (
  runH Try.prog (Builtin.copy_ #[t_sl_api_Range, t_sl_api_Range] t_int #[.slice (slP (slP s.p s.c 0 2) (s.c - 0) i.toNat 2) ((tot.toNat - 0) - i.toNat) ((s.c - 0) - i.toNat), .slice v.p v.n v.c]) H (fun v7 H7 =>
  ∃ x3 : Int, v7 = .int .i64 x3 ∧ (
  0 ≤ (IntKind.i64.wrap (i + (v.n : Int))) ∧ (IntKind.i64.wrap (i + (v.n : Int))) ≤ (((tot.toNat - 0) : Nat) : Int) ∧ (
  0 ≤ j ∧ j ≤ (s.n : Int) ∧ (
  runH Try.prog (Builtin.copy_ #[t_sl_api_Range, t_sl_api_Range] t_int #[.slice (slP (slP s.p s.c 0 2) (s.c - 0) ((IntKind.i64.wrap (i + (v.n : Int))).toNat) 2) ((tot.toNat - 0) - (IntKind.i64.wrap (i + (v.n : Int))).toNat) ((s.c - 0) - (IntKind.i64.wrap (i + (v.n : Int))).toNat), .slice (slP s.p s.c j.toNat 2) (s.n - j.toNat) (s.c - j.toNat)]) H7 (fun v8 H8 =>
  ∃ x4 : Int, v8 = .int .i64 x4 ∧ (
  0 ≤ tot ∧ tot ≤ (s.n : Int) ∧ (
  runH Try.prog (Builtin.clear_ #[t_sl_api_Range] 0 #[.slice (slP s.p s.c tot.toNat 2) (s.n - tot.toNat) (s.c - tot.toNat)]) H8 (fun v9 H9 =>
  v9 = .tuple #[] ∧ (
  R (.slice (slP s.p s.c 0 2) (tot.toNat - 0) (s.c - 0)) H9))))))))))) (
  0 ≤ (IntKind.i64.wrap (i + (v.n : Int))) ∧ (IntKind.i64.wrap (i + (v.n : Int))) ≤ (((tot.toNat - 0) : Nat) : Int) ∧ (
  runH Try.prog (callFunc n_slices_overlaps_api_Range #[.slice (slP (slP s.p s.c 0 2) (s.c - 0) ((IntKind.i64.wrap (i + (v.n : Int))).toNat) 2) ((tot.toNat - 0) - (IntKind.i64.wrap (i + (v.n : Int))).toNat) ((s.c - 0) - (IntKind.i64.wrap (i + (v.n : Int))).toNat), .slice v.p v.n v.c]) H (fun nx H10 => nextV nx (fun v10 =>
  ∃ x5 : Bool, v10 = .bool x5 ∧ (
  iteB (!x5) (
  0 ≤ (IntKind.i64.wrap (i + (v.n : Int))) ∧ (IntKind.i64.wrap (i + (v.n : Int))) ≤ (((tot.toNat - 0) : Nat) : Int) ∧ (
  0 ≤ j ∧ j ≤ (s.n : Int) ∧ (
  runH Try.prog (Builtin.copy_ #[t_sl_api_Range, t_sl_api_Range] t_int #[.slice (slP (slP s.p s.c 0 2) (s.c - 0) ((IntKind.i64.wrap (i + (v.n : Int))).toNat) 2) ((tot.toNat - 0) - (IntKind.i64.wrap (i + (v.n : Int))).toNat) ((s.c - 0) - (IntKind.i64.wrap (i + (v.n : Int))).toNat), .slice (slP s.p s.c j.toNat 2) (s.n - j.toNat) (s.c - j.toNat)]) H10 (fun v11 H11 =>
  ∃ x6 : Int, v11 = .int .i64 x6 ∧ (
  0 ≤ i ∧ i ≤ (((tot.toNat - 0) : Nat) : Int) ∧ (
  runH Try.prog (Builtin.copy_ #[t_sl_api_Range, t_sl_api_Range] t_int #[.slice (slP (slP s.p s.c 0 2) (s.c - 0) i.toNat 2) ((tot.toNat - 0) - i.toNat) ((s.c - 0) - i.toNat), .slice v.p v.n v.c]) H11 (fun v12 H12 =>
  ∃ x7 : Int, v12 = .int .i64 x7 ∧ (
  R (.slice (slP s.p s.c 0 2) (tot.toNat - 0) (s.c - 0)) H12)))))))) (
  letV (IntKind.i64.wrap ((v.n : Int) - (IntKind.i64.wrap (j - i)))) (fun y : Int =>
  0 ≤ j ∧ j ≤ (((s.c - 0) : Nat) : Int) ∧ (
  0 ≤ i ∧ i ≤ (j.toNat : Int) ∧ (
  runH Try.prog (callFunc n_slices_overlaps_api_Range #[.slice (slP (slP s.p s.c 0 2) (s.c - 0) i.toNat 2) (j.toNat - i.toNat) ((s.c - 0) - i.toNat), .slice v.p v.n v.c]) H10 (fun nx1 H13 => nextV nx1 (fun v13 =>
  ∃ x8 : Bool, v13 = .bool x8 ∧ (
  iteB (!x8) (
  0 ≤ j ∧ j ≤ (((s.c - 0) : Nat) : Int) ∧ (
  0 ≤ i ∧ i ≤ (j.toNat : Int) ∧ (
  0 ≤ y ∧ y ≤ (v.n : Int) ∧ (
  runH Try.prog (Builtin.copy_ #[t_sl_api_Range, t_sl_api_Range] t_int #[.slice (slP (slP s.p s.c 0 2) (s.c - 0) i.toNat 2) (j.toNat - i.toNat) ((s.c - 0) - i.toNat), .slice (slP v.p v.c y.toNat 2) (v.n - y.toNat) (v.c - y.toNat)]) H13 (fun v14 H14 =>
  ∃ x9 : Int, v14 = .int .i64 x9 ∧ (
  0 ≤ (s.n : Int) ∧ (s.n : Int) ≤ (((tot.toNat - 0) : Nat) : Int) ∧ (
  0 ≤ y ∧ y ≤ (v.c : Int) ∧ (
  runH Try.prog (Builtin.copy_ #[t_sl_api_Range, t_sl_api_Range] t_int #[.slice (slP (slP s.p s.c 0 2) (s.c - 0) ((s.n : Int).toNat) 2) ((tot.toNat - 0) - (s.n : Int).toNat) ((s.c - 0) - (s.n : Int).toNat), .slice (slP v.p v.c 0 2) (y.toNat - 0) (v.c - 0)]) H14 (fun v15 H15 =>
  ∃ x10 : Int, v15 = .int .i64 x10 ∧ (
  0 ≤ i ∧ i ≤ (((tot.toNat - 0) : Nat) : Int) ∧ (
  CallsH Try.prog n_slices_rotateRight_api_Range #[.slice (slP (slP s.p s.c 0 2) (s.c - 0) i.toNat 2) ((tot.toNat - 0) - i.toNat) ((s.c - 0) - i.toNat), .int .i64 y] H15 (fun v16 H16 =>
  v16 = .tuple #[] ∧ (
  R (.slice (slP s.p s.c 0 2) (tot.toNat - 0) (s.c - 0)) H16))))))))))))) (
  0 ≤ (s.n : Int) ∧ (s.n : Int) ≤ (((tot.toNat - 0) : Nat) : Int) ∧ (
  runH Try.prog (callFunc n_slices_overlaps_api_Range #[.slice (slP (slP s.p s.c 0 2) (s.c - 0) ((s.n : Int).toNat) 2) ((tot.toNat - 0) - (s.n : Int).toNat) ((s.c - 0) - (s.n : Int).toNat), .slice v.p v.n v.c]) H13 (fun nx2 H17 => nextV nx2 (fun v17 =>
  ∃ x11 : Bool, v17 = .bool x11 ∧ (
  iteB (!x11) (
  0 ≤ (s.n : Int) ∧ (s.n : Int) ≤ (((tot.toNat - 0) : Nat) : Int) ∧ (
  0 ≤ y ∧ y ≤ (v.c : Int) ∧ (
  runH Try.prog (Builtin.copy_ #[t_sl_api_Range, t_sl_api_Range] t_int #[.slice (slP (slP s.p s.c 0 2) (s.c - 0) ((s.n : Int).toNat) 2) ((tot.toNat - 0) - (s.n : Int).toNat) ((s.c - 0) - (s.n : Int).toNat), .slice (slP v.p v.c 0 2) (y.toNat - 0) (v.c - 0)]) H17 (fun v18 H18 =>
  ∃ x12 : Int, v18 = .int .i64 x12 ∧ (
  0 ≤ j ∧ j ≤ (((s.c - 0) : Nat) : Int) ∧ (
  0 ≤ i ∧ i ≤ (j.toNat : Int) ∧ (
  0 ≤ y ∧ y ≤ (v.n : Int) ∧ (
  runH Try.prog (Builtin.copy_ #[t_sl_api_Range, t_sl_api_Range] t_int #[.slice (slP (slP s.p s.c 0 2) (s.c - 0) i.toNat 2) (j.toNat - i.toNat) ((s.c - 0) - i.toNat), .slice (slP v.p v.c y.toNat 2) (v.n - y.toNat) (v.c - y.toNat)]) H18 (fun v19 H19 =>
  ∃ x13 : Int, v19 = .int .i64 x13 ∧ (
  0 ≤ i ∧ i ≤ (((tot.toNat - 0) : Nat) : Int) ∧ (
  CallsH Try.prog n_slices_rotateRight_api_Range #[.slice (slP (slP s.p s.c 0 2) (s.c - 0) i.toNat 2) ((tot.toNat - 0) - i.toNat) ((s.c - 0) - i.toNat), .int .i64 y] H19 (fun v20 H20 =>
  v20 = .tuple #[] ∧ (
  R (.slice (slP s.p s.c 0 2) (tot.toNat - 0) (s.c - 0)) H20))))))))))))) (
  0 ≤ j ∧ j ≤ (s.n : Int) ∧ (
  CallsH Try.prog n_slices_startIdx_api_Range #[.slice v.p v.n v.c, .slice (slP s.p s.c j.toNat 2) (s.n - j.toNat) (s.c - j.toNat)] H17 (fun v21 H21 =>
  ∃ k : Int, v21 = .int .i64 k ∧ (
  0 ≤ i ∧ i ≤ (((tot.toNat - 0) : Nat) : Int) ∧ (
  runH Try.prog (Builtin.copy_ #[t_sl_api_Range, t_sl_api_Range] t_int #[.slice (slP (slP s.p s.c 0 2) (s.c - 0) i.toNat 2) ((tot.toNat - 0) - i.toNat) ((s.c - 0) - i.toNat), .slice v.p v.n v.c]) H21 (fun v22 H22 =>
  ∃ x14 : Int, v22 = .int .i64 x14 ∧ (
  0 ≤ (IntKind.i64.wrap (i + (v.n : Int))) ∧ (IntKind.i64.wrap (i + (v.n : Int))) ≤ (((tot.toNat - 0) : Nat) : Int) ∧ (
  0 ≤ (IntKind.i64.wrap (i + k)) ∧ (IntKind.i64.wrap (i + k)) ≤ (((tot.toNat - 0) : Nat) : Int) ∧ (
  runH Try.prog (Builtin.copy_ #[t_sl_api_Range, t_sl_api_Range] t_int #[.slice (slP (slP s.p s.c 0 2) (s.c - 0) ((IntKind.i64.wrap (i + (v.n : Int))).toNat) 2) ((tot.toNat - 0) - (IntKind.i64.wrap (i + (v.n : Int))).toNat) ((s.c - 0) - (IntKind.i64.wrap (i + (v.n : Int))).toNat), .slice (slP (slP s.p s.c 0 2) (s.c - 0) ((IntKind.i64.wrap (i + k)).toNat) 2) ((tot.toNat - 0) - (IntKind.i64.wrap (i + k)).toNat) ((s.c - 0) - (IntKind.i64.wrap (i + k)).toNat)]) H22 (fun v23 H23 =>
  ∃ x15 : Int, v23 = .int .i64 x15 ∧ (
  R (.slice (slP s.p s.c 0 2) (tot.toNat - 0) (s.c - 0)) H23)))))))))))))))))))))))))))))))))))))

theorem F_slices_Replace_sl_api_Range_api_Range_eq (R : Value → Heap → Prop) (s : Sl) (i : Int) (j : Int) (v : Sl) (H : Heap) : wpF Try.prog Try.f74 [] [] [] [17] [.slice s.p s.n s.c, .int .i64 i, .int .i64 j, .slice v.p v.n v.c] H R = F_slices_Replace_sl_api_Range_api_Range R s i j v H := by kernel_rfl

theorem F_slices_Replace_sl_api_Range_api_Range_ok {R : Value → Heap → Prop} (s : Sl) (i : Int) (j : Int) (v : Sl) {H : Heap} (h : F_slices_Replace_sl_api_Range_api_Range R s i j v H) : CallsH Try.prog n_slices_Replace_sl_api_Range_api_Range #[.slice s.p s.n s.c, .int .i64 i, .int .i64 j, .slice v.p v.n v.c] H R :=
  wpF_ok Try.func74 (F_slices_Replace_sl_api_Range_api_Range_eq R s i j v H) h

/-! ### 75: platformfw/allocate.within -/

def F_allocate_within_r1 (R : Value → Heap → Prop) (l : Sl) (base : Int) (endv : Int) (I_ : Int → Heap → Prop) (M_ : Int → Heap → Nat) (x : Int) (H1 : Heap) : Prop :=
  iteB (decide (x < (l.n : Int))) (
  0 ≤ x ∧ x < (l.n : Int) ∧ (unSome l.p (fun a =>
  ∃ x1 : Int, rd H1 (a.add (x.toNat * 2)) = some (.int .u64 x1) ∧ ∃ x2 : Int, rd H1 ((a.add (x.toNat * 2)).add 1) = some (.int .u64 x2) ∧ (
  letH (H1.push (.cells #[.int .u64 (0 : Int), .int .u64 (0 : Int)] t_api_Range (0, 0))) (fun H2 : Heap =>
  okRow H2 (⟨H1.size, 0, none⟩ : Addr) 2 ∧ (
  letH (wrs H2 (⟨H1.size, 0, none⟩ : Addr) [.int .u64 x1, .int .u64 x2]) (fun H3 : Heap =>
  ∃ x3 : Int, rd H3 ((⟨H1.size, 0, none⟩ : Addr).add 1) = some (.int .u64 x3) ∧ (
  iteB (decide (x3 < (1 : Int))) (
  R (.bool false) H3) (
  ∃ x4 : Int, rd H3 (⟨H1.size, 0, none⟩ : Addr) = some (.int .u64 x4) ∧ (
  iteB (decide (x4 < base)) (
  R (.bool false) H3) (
  ∃ x5 : Int, rd H3 (⟨H1.size, 0, none⟩ : Addr) = some (.int .u64 x5) ∧ (
  iteB (decide (x5 > endv)) (
  R (.bool false) H3) (
  ∃ x6 : Int, rd H3 ((⟨H1.size, 0, none⟩ : Addr).add 1) = some (.int .u64 x6) ∧ (
  ∃ x7 : Int, rd H3 (⟨H1.size, 0, none⟩ : Addr) = some (.int .u64 x7) ∧ (
  iteB (decide (x6 > (IntKind.u64.wrap (endv - x7)))) (
  R (.bool false) H3) (
  I_ (IntKind.i64.wrap (x + (1 : Int))) H3 ∧ M_ (IntKind.i64.wrap (x + (1 : Int))) H3 < M_ x H1)))))))))))))))) (
  R (.bool true) H1)

def F_allocate_within (R : Value → Heap → Prop) (l : Sl) (base : Int) (endv : Int) (H : Heap) : Prop :=
  ∃ I_ : Int → Heap → Prop, ∃ M_ : Int → Heap → Nat, I_ (0 : Int) H ∧ (∀ x : Int, ∀ H1 : Heap, I_ x H1 → F_allocate_within_r1 R l base endv I_ M_ x H1)

theorem F_allocate_within_eq (R : Value → Heap → Prop) (l : Sl) (base : Int) (endv : Int) (H : Heap) : wpF Try.prog Try.f75 [(11, .int .i64 0)] [] [(2, [11], [1, 2, 9, 10])] [17] [.slice l.p l.n l.c, .int .u64 base, .int .u64 endv] H R = F_allocate_within R l base endv H := by kernel_rfl

theorem F_allocate_within_ok {R : Value → Heap → Prop} (l : Sl) (base : Int) (endv : Int) {H : Heap} (h : F_allocate_within R l base endv H) : CallsH Try.prog n_allocate_within #[.slice l.p l.n l.c, .int .u64 base, .int .u64 endv] H R :=
  wpF_ok Try.func75 (F_allocate_within_eq R l base endv H) h

/-! ### 76: platformfw/pciconf.Valid -/

def F_pciconf_Valid_r1 (R : Value → Heap → Prop) (H : Heap) (x23 : Sl) (I_ : Int → Heap → Prop) (M_ : Int → Heap → Nat) (x24 : Int) (H5 : Heap) : Prop :=
  iteB (decide (x24 < (x23.n : Int))) (
  ∃ x25 : Sl, rd H5 ((⟨H.size, 0, none⟩ : Addr).add 10) = some (.slice x25.p x25.n x25.c) ∧ (
  CallsH Try.prog n_pciconf_validBar #[.slice x25.p x25.n x25.c, .int .i64 x24] H5 (fun v1 H6 =>
  ∃ x26 : Bool, v1 = .bool x26 ∧ (
  iteB (!x26) (
  R (.bool false) H6) (
  I_ (IntKind.i64.wrap (x24 + (1 : Int))) H6 ∧ M_ (IntKind.i64.wrap (x24 + (1 : Int))) H6 < M_ x24 H5))))) (
  R (.bool true) H5)

def F_pciconf_Valid_k2 (R : Value → Heap → Prop) (H : Heap) (H3 : Heap) : Prop :=
  ∃ x20 : Sl, rd H3 ((⟨H.size, 0, none⟩ : Addr).add 10) = some (.slice x20.p x20.n x20.c) ∧ (
  ∃ x21 : Bool, rd H3 ((⟨H.size, 0, none⟩ : Addr).add 4) = some (.bool x21) ∧ (
  CallsH Try.prog n_pciconf_registers #[.bool x21] H3 (fun v H4 =>
  ∃ x22 : Int, v = .int .i64 x22 ∧ (
  Keeps H3 H4 [(((⟨H.size, 0, none⟩ : Addr).add 10), 1)] ∧ (
  iteB (decide ((x20.n : Int) > x22)) (
  R (.bool false) H4) (
  ∃ x23 : Sl, rd H4 ((⟨H.size, 0, none⟩ : Addr).add 10) = some (.slice x23.p x23.n x23.c) ∧ (
  ∃ I_ : Int → Heap → Prop, ∃ M_ : Int → Heap → Nat, I_ (0 : Int) H4 ∧ (∀ x24 : Int, ∀ H5 : Heap, I_ x24 H5 → F_pciconf_Valid_r1 R H x23 I_ M_ x24 H5))))))))

def F_pciconf_Valid_k3 (R : Value → Heap → Prop) (H : Heap) (H2 : Heap) : Prop :=
  ∃ J_1 : Heap → Prop, (
  ∃ x17 : Bool, rd H2 ((⟨H.size, 0, none⟩ : Addr).add 4) = some (.bool x17) ∧ (
  iteB (!x17) (
  ∃ x18 : Bool, rd H2 ((⟨H.size, 0, none⟩ : Addr).add 5) = some (.bool x18) ∧ (
  iteB x18 (
  R (.bool false) H2) (
  ∃ x19 : Bool, rd H2 ((⟨H.size, 0, none⟩ : Addr).add 6) = some (.bool x19) ∧ (
  iteB x19 (
  R (.bool false) H2) (
  J_1 H2))))) (
  J_1 H2))) ∧ (∀ H3 : Heap, J_1 H3 → F_pciconf_Valid_k2 R H H3)

def F_pciconf_Valid (R : Value → Heap → Prop) (f_0 : Int) (f_1 : Int) (f_2 : Int) (f_3 : Int) (f_4 : Bool) (f_5 : Bool) (f_6 : Bool) (f_7 : Int) (f_8 : Int) (f_9 : Int) (f_10 : Sl) (H : Heap) : Prop :=
  letH (H.push (.cells #[.int .i64 f_0, .int .i64 f_1, .int .i64 f_2, .int .i64 f_3, .bool f_4, .bool f_5, .bool f_6, .int .i64 f_7, .int .i64 f_8, .int .i64 f_9, .slice f_10.p f_10.n f_10.c] t_api_Function (0, 0))) (fun H1 : Heap =>
  ∃ x : Int, rd H1 ((⟨H.size, 0, none⟩ : Addr).add 2) = some (.int .i64 x) ∧ (
  iteB (decide (x < (1 : Int))) (
  R (.bool false) H1) (
  ∃ x1 : Int, rd H1 ((⟨H.size, 0, none⟩ : Addr).add 2) = some (.int .i64 x1) ∧ (
  iteB (decide (x1 > (65534 : Int))) (
  R (.bool false) H1) (
  ∃ x2 : Int, rd H1 ((⟨H.size, 0, none⟩ : Addr).add 3) = some (.int .i64 x2) ∧ (
  iteB (decide (x2 < (0 : Int))) (
  R (.bool false) H1) (
  ∃ x3 : Int, rd H1 ((⟨H.size, 0, none⟩ : Addr).add 3) = some (.int .i64 x3) ∧ (
  iteB (decide (x3 > (65535 : Int))) (
  R (.bool false) H1) (
  ∃ x4 : Int, rd H1 ((⟨H.size, 0, none⟩ : Addr).add 1) = some (.int .i64 x4) ∧ (
  iteB (decide (x4 < (0 : Int))) (
  R (.bool false) H1) (
  ∃ x5 : Int, rd H1 ((⟨H.size, 0, none⟩ : Addr).add 1) = some (.int .i64 x5) ∧ (
  iteB (decide (x5 > (31 : Int))) (
  R (.bool false) H1) (
  ∃ x6 : Int, rd H1 ((⟨H.size, 0, none⟩ : Addr).add 8) = some (.int .i64 x6) ∧ (
  iteB (decide (x6 < (0 : Int))) (
  R (.bool false) H1) (
  ∃ x7 : Int, rd H1 ((⟨H.size, 0, none⟩ : Addr).add 8) = some (.int .i64 x7) ∧ (
  iteB (decide (x7 > (4 : Int))) (
  R (.bool false) H1) (
  ∃ x8 : Int, rd H1 ((⟨H.size, 0, none⟩ : Addr).add 9) = some (.int .i64 x8) ∧ (
  iteB (decide (x8 < (0 : Int))) (
  R (.bool false) H1) (
  ∃ x9 : Int, rd H1 ((⟨H.size, 0, none⟩ : Addr).add 9) = some (.int .i64 x9) ∧ (
  iteB (decide (x9 > (32 : Int))) (
  R (.bool false) H1) (
  ∃ x10 : Int, rd H1 ((⟨H.size, 0, none⟩ : Addr).add 9) = some (.int .i64 x10) ∧ (
  ∃ x11 : Int, rd H1 ((⟨H.size, 0, none⟩ : Addr).add 9) = some (.int .i64 x11) ∧ (
  iteB ((bitsAnd .i64 x10 (IntKind.i64.wrap (x11 - (1 : Int)))) != (0 : Int)) (
  R (.bool false) H1) (
  ∃ J_ : Heap → Prop, (
  ∃ x12 : Int, rd H1 ((⟨H.size, 0, none⟩ : Addr).add 7) = some (.int .i64 x12) ∧ (
  iteB (decide (x12 < (0 : Int))) (
  R (.bool false) H1) (
  ∃ x13 : Int, rd H1 ((⟨H.size, 0, none⟩ : Addr).add 7) = some (.int .i64 x13) ∧ (
  iteB (decide (x13 > (32 : Int))) (
  R (.bool false) H1) (
  ∃ x14 : Int, rd H1 ((⟨H.size, 0, none⟩ : Addr).add 7) = some (.int .i64 x14) ∧ (
  iteB (decide (x14 > (0 : Int))) (
  ∃ x15 : Bool, rd H1 ((⟨H.size, 0, none⟩ : Addr).add 4) = some (.bool x15) ∧ (
  iteB x15 (
  ∃ x16 : Bool, rd H1 ((⟨H.size, 0, none⟩ : Addr).add 6) = some (.bool x16) ∧ (
  iteB (!x16) (
  R (.bool false) H1) (
  J_ H1))) (
  R (.bool false) H1))) (
  J_ H1))))))) ∧ (∀ H2 : Heap, J_ H2 → F_pciconf_Valid_k3 R H H2)))))))))))))))))))))))))

theorem F_pciconf_Valid_eq (R : Value → Heap → Prop) (f_0 : Int) (f_1 : Int) (f_2 : Int) (f_3 : Int) (f_4 : Bool) (f_5 : Bool) (f_6 : Bool) (f_7 : Int) (f_8 : Int) (f_9 : Int) (f_10 : Sl) (H : Heap) : wpF Try.prog Try.f76 [(100, .int .i64 0)] [(9, [], [1]), (11, [], [1])] [(14, [100], [1, 99])] [17] [.agg #[.int .i64 f_0, .int .i64 f_1, .int .i64 f_2, .int .i64 f_3, .bool f_4, .bool f_5, .bool f_6, .int .i64 f_7, .int .i64 f_8, .int .i64 f_9, .slice f_10.p f_10.n f_10.c]] H R = F_pciconf_Valid R f_0 f_1 f_2 f_3 f_4 f_5 f_6 f_7 f_8 f_9 f_10 H := by kernel_rfl

theorem F_pciconf_Valid_ok {R : Value → Heap → Prop} (f_0 : Int) (f_1 : Int) (f_2 : Int) (f_3 : Int) (f_4 : Bool) (f_5 : Bool) (f_6 : Bool) (f_7 : Int) (f_8 : Int) (f_9 : Int) (f_10 : Sl) {H : Heap} (h : F_pciconf_Valid R f_0 f_1 f_2 f_3 f_4 f_5 f_6 f_7 f_8 f_9 f_10 H) : CallsH Try.prog n_pciconf_Valid #[.agg #[.int .i64 f_0, .int .i64 f_1, .int .i64 f_2, .int .i64 f_3, .bool f_4, .bool f_5, .bool f_6, .int .i64 f_7, .int .i64 f_8, .int .i64 f_9, .slice f_10.p f_10.n f_10.c]] H R :=
  wpF_ok Try.func76 (F_pciconf_Valid_eq R f_0 f_1 f_2 f_3 f_4 f_5 f_6 f_7 f_8 f_9 f_10 H) h

/-! ### 77: platformfw/resources.registers -/

def F_resources_registers_r1 (R : Value → Heap → Prop) (l : Sl) (high : Bool) (function : Int) (x : Sl) (I_ : Sl → Int → Heap → Prop) (M_ : Sl → Int → Heap → Nat) (needs : Sl) (x1 : Int) (H1 : Heap) : Prop :=
  iteB (decide (x1 < (x.n : Int))) (
  0 ≤ x1 ∧ x1 < (x.n : Int) ∧ (unSome x.p (fun a1 =>
  ∃ x2 : Int, rd H1 (a1.add (x1.toNat * 2)) = some (.int .i64 x2) ∧ ∃ x3 : Int, rd H1 ((a1.add (x1.toNat * 2)).add 1) = some (.int .i64 x3) ∧ (
  letH (H1.push (.cells #[.int .i64 (0 : Int), .int .i64 (0 : Int)] t_api_Bar (0, 0))) (fun H2 : Heap =>
  okRow H2 (⟨H1.size, 0, none⟩ : Addr) 2 ∧ (
  letH (wrs H2 (⟨H1.size, 0, none⟩ : Addr) [.int .i64 x2, .int .i64 x3]) (fun H3 : Heap =>
  ∃ x4 : Int, rd H3 (⟨H1.size, 0, none⟩ : Addr) = some (.int .i64 x4) ∧ (
  iteB (x4 == (0 : Int)) (
  I_ needs (IntKind.i64.wrap (x1 + (1 : Int))) H3 ∧ M_ needs (IntKind.i64.wrap (x1 + (1 : Int))) H3 < M_ needs x1 H1) (
  ∃ x5 : Int, rd H3 (⟨H1.size, 0, none⟩ : Addr) = some (.int .i64 x5) ∧ (
  CallsH Try.prog n_resources_classOf #[.slice l.p l.n l.c, .bool high, .int .i64 function, .int .i64 x5] H3 (fun v H4 =>
  ∃ classv : Int, v = .int .i64 classv ∧ (
  ∃ x6 : Int, rd H4 ((⟨H1.size, 0, none⟩ : Addr).add 1) = some (.int .i64 x6) ∧ (
  letH (H4.push (.cells #[.int .i64 function, .int .i64 x1, .int .i64 classv, .int .i64 x6] t_api_Need (0, 0))) (fun H5 : Heap =>
  runH Try.prog (Builtin.append_ #[t_sl_api_Need, t_sl_api_Need] t_sl_api_Need #[.slice needs.p needs.n needs.c, .slice (some (⟨H4.size, 0, none⟩ : Addr)) 1 1]) H5 (fun v1 H6 =>
  ∃ needs1 : Sl, v1 = .slice needs1.p needs1.n needs1.c ∧ (
  I_ needs1 (IntKind.i64.wrap (x1 + (1 : Int))) H6 ∧ M_ needs1 (IntKind.i64.wrap (x1 + (1 : Int))) H6 < M_ needs x1 H1)))))))))))))))) (
  R (.slice needs.p needs.n needs.c) H1)

def F_resources_registers (R : Value → Heap → Prop) (l : Sl) (high : Bool) (function : Int) (H : Heap) : Prop :=
  0 ≤ function ∧ function < (l.n : Int) ∧ (unSome l.p (fun a =>
  ∃ x : Sl, rd H ((a.add (function.toNat * 11)).add 10) = some (.slice x.p x.n x.c) ∧ (
  ∃ I_ : Sl → Int → Heap → Prop, ∃ M_ : Sl → Int → Heap → Nat, I_ (Sl.mk none 0 0) (0 : Int) H ∧ (∀ needs : Sl, ∀ x1 : Int, ∀ H1 : Heap, I_ needs x1 H1 → F_resources_registers_r1 R l high function x I_ M_ needs x1 H1))))

theorem F_resources_registers_eq (R : Value → Heap → Prop) (l : Sl) (high : Bool) (function : Int) (H : Heap) : wpF Try.prog Try.f77 [(7, .slice none 0 0), (17, .int .i64 0)] [] [(3, [7, 17], [0, 1, 2, 15, 16])] [17] [.slice l.p l.n l.c, .bool high, .int .i64 function] H R = F_resources_registers R l high function H := by kernel_rfl

theorem F_resources_registers_ok {R : Value → Heap → Prop} (l : Sl) (high : Bool) (function : Int) {H : Heap} (h : F_resources_registers R l high function H) : CallsH Try.prog n_resources_registers #[.slice l.p l.n l.c, .bool high, .int .i64 function] H R :=
  wpF_ok Try.func77 (F_resources_registers_eq R l high function H) h

/-! ### 78: platformfw/resources.windows -/

def F_resources_windows_k1 (function : Int) (H1 : Heap) (x12 : Sl) (I_ : Sl → Int → Heap → Prop) (M_ : Sl → Int → Heap → Nat) (needs : Sl) (x15 : Int) (H4 : Heap) (H6 : Heap) : Prop :=
  ∃ x18 : Bool, rd H6 ((⟨H1.size, 0, none⟩ : Addr).add 6) = some (.bool x18) ∧ (
  CallsH Try.prog n_resources_WindowSize #[.slice x12.p x12.n x12.c, .int .i64 x15, .bool x18] H6 (fun v1 H7 =>
  ∃ x19 : Int, ∃ x20 : Bool, v1 = .tuple #[.int .i64 x19, .bool x20] ∧ (
  iteB x20 (
  letH (H7.push (.cells #[.int .i64 function, .int .i64 (IntKind.i64.wrap ((-1 : Int) - x15)), .int .i64 x15, .int .i64 x19] t_api_Need (0, 0))) (fun H8 : Heap =>
  runH Try.prog (Builtin.append_ #[t_sl_api_Need, t_sl_api_Need] t_sl_api_Need #[.slice needs.p needs.n needs.c, .slice (some (⟨H7.size, 0, none⟩ : Addr)) 1 1]) H8 (fun v2 H9 =>
  ∃ needs1 : Sl, v2 = .slice needs1.p needs1.n needs1.c ∧ (
  I_ needs1 (IntKind.i64.wrap (x15 + (1 : Int))) H9 ∧ M_ needs1 (IntKind.i64.wrap (x15 + (1 : Int))) H9 < M_ needs x15 H4)))) (
  I_ needs (IntKind.i64.wrap (x15 + (1 : Int))) H7 ∧ M_ needs (IntKind.i64.wrap (x15 + (1 : Int))) H7 < M_ needs x15 H4))))

def F_resources_windows_k2 (function : Int) (H1 : Heap) (x13 : Sl) (I_ : Sl → Int → Heap → Prop) (M_ : Sl → Int → Heap → Nat) (needs : Sl) (x15 : Int) (H4 : Heap) (H11 : Heap) : Prop :=
  ∃ x23 : Bool, rd H11 ((⟨H1.size, 0, none⟩ : Addr).add 6) = some (.bool x23) ∧ (
  CallsH Try.prog n_resources_WindowSize #[.slice x13.p x13.n x13.c, .int .i64 x15, .bool x23] H11 (fun v4 H12 =>
  ∃ x24 : Int, ∃ x25 : Bool, v4 = .tuple #[.int .i64 x24, .bool x25] ∧ (
  iteB x25 (
  letH (H12.push (.cells #[.int .i64 function, .int .i64 (IntKind.i64.wrap ((-1 : Int) - x15)), .int .i64 x15, .int .i64 x24] t_api_Need (0, 0))) (fun H13 : Heap =>
  runH Try.prog (Builtin.append_ #[t_sl_api_Need, t_sl_api_Need] t_sl_api_Need #[.slice needs.p needs.n needs.c, .slice (some (⟨H12.size, 0, none⟩ : Addr)) 1 1]) H13 (fun v5 H14 =>
  ∃ needs2 : Sl, v5 = .slice needs2.p needs2.n needs2.c ∧ (
  I_ needs2 (IntKind.i64.wrap (x15 + (1 : Int))) H14 ∧ M_ needs2 (IntKind.i64.wrap (x15 + (1 : Int))) H14 < M_ needs x15 H4)))) (
  I_ needs (IntKind.i64.wrap (x15 + (1 : Int))) H12 ∧ M_ needs (IntKind.i64.wrap (x15 + (1 : Int))) H12 < M_ needs x15 H4))))

def F_resources_windows_k3 (function : Int) (H1 : Heap) (x14 : Sl) (I_ : Sl → Int → Heap → Prop) (M_ : Sl → Int → Heap → Nat) (needs : Sl) (x15 : Int) (H4 : Heap) (H16 : Heap) : Prop :=
  ∃ x28 : Bool, rd H16 ((⟨H1.size, 0, none⟩ : Addr).add 6) = some (.bool x28) ∧ (
  CallsH Try.prog n_resources_WindowSize #[.slice x14.p x14.n x14.c, .int .i64 x15, .bool x28] H16 (fun v7 H17 =>
  ∃ x29 : Int, ∃ x30 : Bool, v7 = .tuple #[.int .i64 x29, .bool x30] ∧ (
  iteB x30 (
  letH (H17.push (.cells #[.int .i64 function, .int .i64 (IntKind.i64.wrap ((-1 : Int) - x15)), .int .i64 x15, .int .i64 x29] t_api_Need (0, 0))) (fun H18 : Heap =>
  runH Try.prog (Builtin.append_ #[t_sl_api_Need, t_sl_api_Need] t_sl_api_Need #[.slice needs.p needs.n needs.c, .slice (some (⟨H17.size, 0, none⟩ : Addr)) 1 1]) H18 (fun v8 H19 =>
  ∃ needs3 : Sl, v8 = .slice needs3.p needs3.n needs3.c ∧ (
  I_ needs3 (IntKind.i64.wrap (x15 + (1 : Int))) H19 ∧ M_ needs3 (IntKind.i64.wrap (x15 + (1 : Int))) H19 < M_ needs x15 H4)))) (
  I_ needs (IntKind.i64.wrap (x15 + (1 : Int))) H17 ∧ M_ needs (IntKind.i64.wrap (x15 + (1 : Int))) H17 < M_ needs x15 H4))))

def F_resources_windows_r4 (R : Value → Heap → Prop) (l : Sl) (high : Bool) (function : Int) (H1 : Heap) (x12 : Sl) (x13 : Sl) (x14 : Sl) (I_ : Sl → Int → Heap → Prop) (M_ : Sl → Int → Heap → Nat) (needs : Sl) (x15 : Int) (H4 : Heap) : Prop :=
  iteB (decide (x15 < (3 : Int))) (
  0 ≤ x15 ∧ x15 < ((3 : Nat) : Int) ∧ (iteB (x15 == (0 : Int)) (
  ∃ J_ : Heap → Prop, (
  iteB (x15 == (2 : Int)) (
  iteB high (
  ∃ x16 : Bool, rd H4 ((⟨H1.size, 0, none⟩ : Addr).add 5) = some (.bool x16) ∧ (
  iteB x16 (
  CallsH Try.prog n_resources_prefAbove #[.slice l.p l.n l.c, .int .i64 function] H4 (fun v H5 =>
  ∃ x17 : Bool, v = .bool x17 ∧ (
  iteB (!x17) (
  I_ needs (IntKind.i64.wrap (x15 + (1 : Int))) H5 ∧ M_ needs (IntKind.i64.wrap (x15 + (1 : Int))) H5 < M_ needs x15 H4) (
  J_ H5)))) (
  I_ needs (IntKind.i64.wrap (x15 + (1 : Int))) H4 ∧ M_ needs (IntKind.i64.wrap (x15 + (1 : Int))) H4 < M_ needs x15 H4))) (
  I_ needs (IntKind.i64.wrap (x15 + (1 : Int))) H4 ∧ M_ needs (IntKind.i64.wrap (x15 + (1 : Int))) H4 < M_ needs x15 H4)) (
  J_ H4)) ∧ (∀ H6 : Heap, J_ H6 → F_resources_windows_k1 function H1 x12 I_ M_ needs x15 H4 H6)) (
  iteB (x15 == (1 : Int)) (
  ∃ J_1 : Heap → Prop, (
  iteB (x15 == (2 : Int)) (
  iteB high (
  ∃ x21 : Bool, rd H4 ((⟨H1.size, 0, none⟩ : Addr).add 5) = some (.bool x21) ∧ (
  iteB x21 (
  CallsH Try.prog n_resources_prefAbove #[.slice l.p l.n l.c, .int .i64 function] H4 (fun v3 H10 =>
  ∃ x22 : Bool, v3 = .bool x22 ∧ (
  iteB (!x22) (
  I_ needs (IntKind.i64.wrap (x15 + (1 : Int))) H10 ∧ M_ needs (IntKind.i64.wrap (x15 + (1 : Int))) H10 < M_ needs x15 H4) (
  J_1 H10)))) (
  I_ needs (IntKind.i64.wrap (x15 + (1 : Int))) H4 ∧ M_ needs (IntKind.i64.wrap (x15 + (1 : Int))) H4 < M_ needs x15 H4))) (
  I_ needs (IntKind.i64.wrap (x15 + (1 : Int))) H4 ∧ M_ needs (IntKind.i64.wrap (x15 + (1 : Int))) H4 < M_ needs x15 H4)) (
  J_1 H4)) ∧ (∀ H11 : Heap, J_1 H11 → F_resources_windows_k2 function H1 x13 I_ M_ needs x15 H4 H11)) (
  iteB (x15 == (2 : Int)) (
  ∃ J_2 : Heap → Prop, (
  iteB (x15 == (2 : Int)) (
  iteB high (
  ∃ x26 : Bool, rd H4 ((⟨H1.size, 0, none⟩ : Addr).add 5) = some (.bool x26) ∧ (
  iteB x26 (
  CallsH Try.prog n_resources_prefAbove #[.slice l.p l.n l.c, .int .i64 function] H4 (fun v6 H15 =>
  ∃ x27 : Bool, v6 = .bool x27 ∧ (
  iteB (!x27) (
  I_ needs (IntKind.i64.wrap (x15 + (1 : Int))) H15 ∧ M_ needs (IntKind.i64.wrap (x15 + (1 : Int))) H15 < M_ needs x15 H4) (
  J_2 H15)))) (
  I_ needs (IntKind.i64.wrap (x15 + (1 : Int))) H4 ∧ M_ needs (IntKind.i64.wrap (x15 + (1 : Int))) H4 < M_ needs x15 H4))) (
  I_ needs (IntKind.i64.wrap (x15 + (1 : Int))) H4 ∧ M_ needs (IntKind.i64.wrap (x15 + (1 : Int))) H4 < M_ needs x15 H4)) (
  J_2 H4)) ∧ (∀ H16 : Heap, J_2 H16 → F_resources_windows_k3 function H1 x14 I_ M_ needs x15 H4 H16)) (
  False))))) (
  R (.slice needs.p needs.n needs.c) H4)

def F_resources_windows (R : Value → Heap → Prop) (l : Sl) (high : Bool) (function : Int) (below_0 : Sl) (below_1 : Sl) (below_2 : Sl) (H : Heap) : Prop :=
  letH (H.push (.cells #[.slice below_0.p below_0.n below_0.c, .slice below_1.p below_1.n below_1.c, .slice below_2.p below_2.n below_2.c] t_3_sl_int (0, 0))) (fun H1 : Heap =>
  0 ≤ function ∧ function < (l.n : Int) ∧ (unSome l.p (fun a =>
  ∃ x : Int, rd H1 (a.add (function.toNat * 11)) = some (.int .i64 x) ∧ ∃ x1 : Int, rd H1 ((a.add (function.toNat * 11)).add 1) = some (.int .i64 x1) ∧ ∃ x2 : Int, rd H1 ((a.add (function.toNat * 11)).add 2) = some (.int .i64 x2) ∧ ∃ x3 : Int, rd H1 ((a.add (function.toNat * 11)).add 3) = some (.int .i64 x3) ∧ ∃ x4 : Bool, rd H1 ((a.add (function.toNat * 11)).add 4) = some (.bool x4) ∧ ∃ x5 : Bool, rd H1 ((a.add (function.toNat * 11)).add 5) = some (.bool x5) ∧ ∃ x6 : Bool, rd H1 ((a.add (function.toNat * 11)).add 6) = some (.bool x6) ∧ ∃ x7 : Int, rd H1 ((a.add (function.toNat * 11)).add 7) = some (.int .i64 x7) ∧ ∃ x8 : Int, rd H1 ((a.add (function.toNat * 11)).add 8) = some (.int .i64 x8) ∧ ∃ x9 : Int, rd H1 ((a.add (function.toNat * 11)).add 9) = some (.int .i64 x9) ∧ ∃ x10 : Sl, rd H1 ((a.add (function.toNat * 11)).add 10) = some (.slice x10.p x10.n x10.c) ∧ (
  letH (H1.push (.cells #[.int .i64 (0 : Int), .int .i64 (0 : Int), .int .i64 (0 : Int), .int .i64 (0 : Int), .bool false, .bool false, .bool false, .int .i64 (0 : Int), .int .i64 (0 : Int), .int .i64 (0 : Int), .slice none 0 0] t_api_Function (0, 0))) (fun H2 : Heap =>
  okRow H2 (⟨H1.size, 0, none⟩ : Addr) 11 ∧ (
  letH (wrs H2 (⟨H1.size, 0, none⟩ : Addr) [.int .i64 x, .int .i64 x1, .int .i64 x2, .int .i64 x3, .bool x4, .bool x5, .bool x6, .int .i64 x7, .int .i64 x8, .int .i64 x9, .slice x10.p x10.n x10.c]) (fun H3 : Heap =>
  ∃ x11 : Bool, rd H3 ((⟨H1.size, 0, none⟩ : Addr).add 4) = some (.bool x11) ∧ (
  iteB (!x11) (
  R (.slice none 0 0) H3) (
  ∃ x12 : Sl, rd H3 (⟨H.size, 0, none⟩ : Addr) = some (.slice x12.p x12.n x12.c) ∧ ∃ x13 : Sl, rd H3 ((⟨H.size, 0, none⟩ : Addr).add 1) = some (.slice x13.p x13.n x13.c) ∧ ∃ x14 : Sl, rd H3 ((⟨H.size, 0, none⟩ : Addr).add 2) = some (.slice x14.p x14.n x14.c) ∧ (
  ∃ I_ : Sl → Int → Heap → Prop, ∃ M_ : Sl → Int → Heap → Nat, I_ (Sl.mk none 0 0) (0 : Int) H3 ∧ (∀ needs : Sl, ∀ x15 : Int, ∀ H4 : Heap, I_ needs x15 H4 → F_resources_windows_r4 R l high function H1 x12 x13 x14 I_ M_ needs x15 H4)))))))))))

theorem F_resources_windows_eq (R : Value → Heap → Prop) (l : Sl) (high : Bool) (function : Int) (below_0 : Sl) (below_1 : Sl) (below_2 : Sl) (H : Heap) : wpF Try.prog Try.f78 [(10, .slice none 0 0), (23, .int .i64 0)] [(9, [], [0, 1, 2, 9, 10, 11, 12, 22, 23])] [(6, [10, 23], [0, 1, 2, 9, 22])] [17] [.slice l.p l.n l.c, .bool high, .int .i64 function, .agg #[.slice below_0.p below_0.n below_0.c, .slice below_1.p below_1.n below_1.c, .slice below_2.p below_2.n below_2.c]] H R = F_resources_windows R l high function below_0 below_1 below_2 H := by kernel_rfl

theorem F_resources_windows_ok {R : Value → Heap → Prop} (l : Sl) (high : Bool) (function : Int) (below_0 : Sl) (below_1 : Sl) (below_2 : Sl) {H : Heap} (h : F_resources_windows R l high function below_0 below_1 below_2 H) : CallsH Try.prog n_resources_windows #[.slice l.p l.n l.c, .bool high, .int .i64 function, .agg #[.slice below_0.p below_0.n below_0.c, .slice below_1.p below_1.n below_1.c, .slice below_2.p below_2.n below_2.c]] H R :=
  wpF_ok Try.func78 (F_resources_windows_eq R l high function below_0 below_1 below_2 H) h

/-! ### 79: platformfw/resources.largest -/

def F_resources_largest (R : Value → Heap → Prop) (classv : Int) (H : Heap) : Prop :=
  iteB (classv == (0 : Int)) (
  R (.int .i64 (15 : Int)) H) (
  iteB (classv == (1 : Int)) (
  R (.int .i64 (31 : Int)) H) (
  R (.int .i64 (44 : Int)) H))

theorem F_resources_largest_eq (R : Value → Heap → Prop) (classv : Int) (H : Heap) : wpF Try.prog Try.f79 [] [] [] [17] [.int .i64 classv] H R = F_resources_largest R classv H := by kernel_rfl

theorem F_resources_largest_ok {R : Value → Heap → Prop} (classv : Int) {H : Heap} (h : F_resources_largest R classv H) : CallsH Try.prog n_resources_largest #[.int .i64 classv] H R :=
  wpF_ok Try.func79 (F_resources_largest_eq R classv H) h

/-! ### 80: platformfw/platformfwref18.ValidFunction -/

def F_ref18_ValidFunction_k1 (R : Value → Heap → Prop) (H : Heap) (I_ : Int → Heap → Prop) (M_ : Int → Heap → Nat) (i : Int) (H4 : Heap) (x46 : Bool) (H7 : Heap) : Prop :=
  iteB x46 (
  ∃ x47 : Int, rd H7 ((⟨H4.size, 0, none⟩ : Addr).add 1) = some (.int .i64 x47) ∧ (
  iteB (decide (x47 < (4 : Int))) (
  R (.bool false) H7) (
  ∃ x48 : Int, rd H7 ((⟨H4.size, 0, none⟩ : Addr).add 1) = some (.int .i64 x48) ∧ (
  iteB (decide (x48 > (40 : Int))) (
  R (.bool false) H7) (
  ∃ x49 : Sl, rd H7 ((⟨H.size, 0, none⟩ : Addr).add 10) = some (.slice x49.p x49.n x49.c) ∧ (
  iteB (decide ((IntKind.i64.wrap (i + (1 : Int))) ≥ (x49.n : Int))) (
  R (.bool false) H7) (
  ∃ x50 : Sl, rd H7 ((⟨H.size, 0, none⟩ : Addr).add 10) = some (.slice x50.p x50.n x50.c) ∧ (
  0 ≤ (IntKind.i64.wrap (i + (1 : Int))) ∧ (IntKind.i64.wrap (i + (1 : Int))) < (x50.n : Int) ∧ (unSome x50.p (fun a1 =>
  ∃ x51 : Int, rd H7 (a1.add ((IntKind.i64.wrap (i + (1 : Int))).toNat * 2)) = some (.int .i64 x51) ∧ (
  iteB (x51 != (0 : Int)) (
  R (.bool false) H7) (
  letV (IntKind.i64.wrap (i + (1 : Int))) (fun i4 : Int =>
  I_ i4 H7 ∧ M_ i4 H7 < M_ i H4))))))))))))) (
  R (.bool false) H7)

def F_ref18_ValidFunction_r2 (R : Value → Heap → Prop) (H : Heap) (I_ : Int → Heap → Prop) (M_ : Int → Heap → Nat) (i : Int) (H4 : Heap) : Prop :=
  ∃ x36 : Sl, rd H4 ((⟨H.size, 0, none⟩ : Addr).add 10) = some (.slice x36.p x36.n x36.c) ∧ (
  iteB (decide (i < (x36.n : Int))) (
  ∃ x37 : Sl, rd H4 ((⟨H.size, 0, none⟩ : Addr).add 10) = some (.slice x37.p x37.n x37.c) ∧ (
  0 ≤ i ∧ i < (x37.n : Int) ∧ (unSome x37.p (fun a =>
  ∃ x38 : Int, rd H4 (a.add (i.toNat * 2)) = some (.int .i64 x38) ∧ ∃ x39 : Int, rd H4 ((a.add (i.toNat * 2)).add 1) = some (.int .i64 x39) ∧ (
  letH (H4.push (.cells #[.int .i64 (0 : Int), .int .i64 (0 : Int)] t_api_Bar (0, 0))) (fun H5 : Heap =>
  okRow H5 (⟨H4.size, 0, none⟩ : Addr) 2 ∧ (
  letH (wrs H5 (⟨H4.size, 0, none⟩ : Addr) [.int .i64 x38, .int .i64 x39]) (fun H6 : Heap =>
  ∃ x40 : Int, rd H6 (⟨H4.size, 0, none⟩ : Addr) = some (.int .i64 x40) ∧ (
  iteB (x40 == (0 : Int)) (
  ∃ x41 : Int, rd H6 ((⟨H4.size, 0, none⟩ : Addr).add 1) = some (.int .i64 x41) ∧ (
  iteB (x41 != (0 : Int)) (
  R (.bool false) H6) (
  letV (IntKind.i64.wrap (i + (1 : Int))) (fun i1 : Int =>
  I_ i1 H6 ∧ M_ i1 H6 < M_ i H4)))) (
  iteB (x40 == (1 : Int)) (
  ∃ x42 : Int, rd H6 ((⟨H4.size, 0, none⟩ : Addr).add 1) = some (.int .i64 x42) ∧ (
  iteB (decide (x42 < (2 : Int))) (
  R (.bool false) H6) (
  ∃ x43 : Int, rd H6 ((⟨H4.size, 0, none⟩ : Addr).add 1) = some (.int .i64 x43) ∧ (
  iteB (decide (x43 > (8 : Int))) (
  R (.bool false) H6) (
  letV (IntKind.i64.wrap (i + (1 : Int))) (fun i2 : Int =>
  I_ i2 H6 ∧ M_ i2 H6 < M_ i H4)))))) (
  iteB (x40 == (2 : Int)) (
  ∃ x44 : Int, rd H6 ((⟨H4.size, 0, none⟩ : Addr).add 1) = some (.int .i64 x44) ∧ (
  iteB (decide (x44 < (4 : Int))) (
  R (.bool false) H6) (
  ∃ x45 : Int, rd H6 ((⟨H4.size, 0, none⟩ : Addr).add 1) = some (.int .i64 x45) ∧ (
  iteB (decide (x45 > (31 : Int))) (
  R (.bool false) H6) (
  letV (IntKind.i64.wrap (i + (1 : Int))) (fun i3 : Int =>
  I_ i3 H6 ∧ M_ i3 H6 < M_ i H4)))))) (
  ∃ J_1 : Bool → Heap → Prop, (
  iteB (x40 == (3 : Int)) (
  J_1 true H6) (
  J_1 (x40 == (4 : Int)) H6)) ∧ (∀ x46 : Bool, ∀ H7 : Heap, J_1 x46 H7 → F_ref18_ValidFunction_k1 R H I_ M_ i H4 x46 H7))))))))))))) (
  R (.bool true) H4))

def F_ref18_ValidFunction_k3 (R : Value → Heap → Prop) (H : Heap) (H2 : Heap) : Prop :=
  ∃ x23 : Sl, rd H2 ((⟨H.size, 0, none⟩ : Addr).add 10) = some (.slice x23.p x23.n x23.c) ∧ (
  ∃ x24 : Int, rd H2 (⟨H.size, 0, none⟩ : Addr) = some (.int .i64 x24) ∧ ∃ x25 : Int, rd H2 ((⟨H.size, 0, none⟩ : Addr).add 1) = some (.int .i64 x25) ∧ ∃ x26 : Int, rd H2 ((⟨H.size, 0, none⟩ : Addr).add 2) = some (.int .i64 x26) ∧ ∃ x27 : Int, rd H2 ((⟨H.size, 0, none⟩ : Addr).add 3) = some (.int .i64 x27) ∧ ∃ x28 : Bool, rd H2 ((⟨H.size, 0, none⟩ : Addr).add 4) = some (.bool x28) ∧ ∃ x29 : Bool, rd H2 ((⟨H.size, 0, none⟩ : Addr).add 5) = some (.bool x29) ∧ ∃ x30 : Bool, rd H2 ((⟨H.size, 0, none⟩ : Addr).add 6) = some (.bool x30) ∧ ∃ x31 : Int, rd H2 ((⟨H.size, 0, none⟩ : Addr).add 7) = some (.int .i64 x31) ∧ ∃ x32 : Int, rd H2 ((⟨H.size, 0, none⟩ : Addr).add 8) = some (.int .i64 x32) ∧ ∃ x33 : Int, rd H2 ((⟨H.size, 0, none⟩ : Addr).add 9) = some (.int .i64 x33) ∧ ∃ x34 : Sl, rd H2 ((⟨H.size, 0, none⟩ : Addr).add 10) = some (.slice x34.p x34.n x34.c) ∧ (
  CallsH Try.prog n_ref18_Registers #[.agg #[.int .i64 x24, .int .i64 x25, .int .i64 x26, .int .i64 x27, .bool x28, .bool x29, .bool x30, .int .i64 x31, .int .i64 x32, .int .i64 x33, .slice x34.p x34.n x34.c]] H2 (fun v H3 =>
  ∃ x35 : Int, v = .int .i64 x35 ∧ (
  Keeps H2 H3 [(((⟨H.size, 0, none⟩ : Addr).add 10), 1)] ∧ (
  iteB (decide ((x23.n : Int) > x35)) (
  R (.bool false) H3) (
  ∃ I_ : Int → Heap → Prop, ∃ M_ : Int → Heap → Nat, I_ (0 : Int) H3 ∧ (∀ i : Int, ∀ H4 : Heap, I_ i H4 → F_ref18_ValidFunction_r2 R H I_ M_ i H4)))))))

def F_ref18_ValidFunction (R : Value → Heap → Prop) (f_0 : Int) (f_1 : Int) (f_2 : Int) (f_3 : Int) (f_4 : Bool) (f_5 : Bool) (f_6 : Bool) (f_7 : Int) (f_8 : Int) (f_9 : Int) (f_10 : Sl) (H : Heap) : Prop :=
  letH (H.push (.cells #[.int .i64 f_0, .int .i64 f_1, .int .i64 f_2, .int .i64 f_3, .bool f_4, .bool f_5, .bool f_6, .int .i64 f_7, .int .i64 f_8, .int .i64 f_9, .slice f_10.p f_10.n f_10.c] t_api_Function (0, 0))) (fun H1 : Heap =>
  ∃ x : Int, rd H1 ((⟨H.size, 0, none⟩ : Addr).add 2) = some (.int .i64 x) ∧ (
  iteB (decide (x < (1 : Int))) (
  R (.bool false) H1) (
  ∃ x1 : Int, rd H1 ((⟨H.size, 0, none⟩ : Addr).add 2) = some (.int .i64 x1) ∧ (
  iteB (decide (x1 > (65534 : Int))) (
  R (.bool false) H1) (
  ∃ x2 : Int, rd H1 ((⟨H.size, 0, none⟩ : Addr).add 3) = some (.int .i64 x2) ∧ (
  iteB (decide (x2 < (0 : Int))) (
  R (.bool false) H1) (
  ∃ x3 : Int, rd H1 ((⟨H.size, 0, none⟩ : Addr).add 3) = some (.int .i64 x3) ∧ (
  iteB (decide (x3 > (65535 : Int))) (
  R (.bool false) H1) (
  ∃ x4 : Int, rd H1 ((⟨H.size, 0, none⟩ : Addr).add 1) = some (.int .i64 x4) ∧ (
  iteB (decide (x4 < (0 : Int))) (
  R (.bool false) H1) (
  ∃ x5 : Int, rd H1 ((⟨H.size, 0, none⟩ : Addr).add 1) = some (.int .i64 x5) ∧ (
  iteB (decide (x5 > (31 : Int))) (
  R (.bool false) H1) (
  ∃ x6 : Int, rd H1 ((⟨H.size, 0, none⟩ : Addr).add 8) = some (.int .i64 x6) ∧ (
  iteB (decide (x6 < (0 : Int))) (
  R (.bool false) H1) (
  ∃ x7 : Int, rd H1 ((⟨H.size, 0, none⟩ : Addr).add 8) = some (.int .i64 x7) ∧ (
  iteB (decide (x7 > (4 : Int))) (
  R (.bool false) H1) (
  ∃ x8 : Int, rd H1 ((⟨H.size, 0, none⟩ : Addr).add 7) = some (.int .i64 x8) ∧ (
  iteB (decide (x8 < (0 : Int))) (
  R (.bool false) H1) (
  ∃ x9 : Int, rd H1 ((⟨H.size, 0, none⟩ : Addr).add 7) = some (.int .i64 x9) ∧ (
  iteB (decide (x9 > (32 : Int))) (
  R (.bool false) H1) (
  ∃ J_ : Heap → Prop, (
  ∃ x10 : Int, rd H1 ((⟨H.size, 0, none⟩ : Addr).add 9) = some (.int .i64 x10) ∧ (
  iteB (decide (x10 < (0 : Int))) (
  R (.bool false) H1) (
  ∃ x11 : Int, rd H1 ((⟨H.size, 0, none⟩ : Addr).add 9) = some (.int .i64 x11) ∧ (
  iteB (decide (x11 > (32 : Int))) (
  R (.bool false) H1) (
  ∃ x12 : Int, rd H1 ((⟨H.size, 0, none⟩ : Addr).add 9) = some (.int .i64 x12) ∧ (
  ∃ x13 : Int, rd H1 ((⟨H.size, 0, none⟩ : Addr).add 9) = some (.int .i64 x13) ∧ (
  iteB ((bitsAnd .i64 x12 (IntKind.i64.wrap (x13 - (1 : Int)))) != (0 : Int)) (
  R (.bool false) H1) (
  ∃ x14 : Int, rd H1 ((⟨H.size, 0, none⟩ : Addr).add 7) = some (.int .i64 x14) ∧ (
  iteB (decide (x14 > (0 : Int))) (
  ∃ x15 : Bool, rd H1 ((⟨H.size, 0, none⟩ : Addr).add 4) = some (.bool x15) ∧ (
  iteB (!x15) (
  R (.bool false) H1) (
  ∃ x16 : Bool, rd H1 ((⟨H.size, 0, none⟩ : Addr).add 6) = some (.bool x16) ∧ (
  iteB (!x16) (
  R (.bool false) H1) (
  ∃ x17 : Bool, rd H1 ((⟨H.size, 0, none⟩ : Addr).add 4) = some (.bool x17) ∧ (
  iteB (!x17) (
  ∃ x18 : Bool, rd H1 ((⟨H.size, 0, none⟩ : Addr).add 5) = some (.bool x18) ∧ (
  iteB x18 (
  R (.bool false) H1) (
  ∃ x19 : Bool, rd H1 ((⟨H.size, 0, none⟩ : Addr).add 6) = some (.bool x19) ∧ (
  iteB x19 (
  R (.bool false) H1) (
  J_ H1))))) (
  J_ H1))))))) (
  ∃ x20 : Bool, rd H1 ((⟨H.size, 0, none⟩ : Addr).add 4) = some (.bool x20) ∧ (
  iteB (!x20) (
  ∃ x21 : Bool, rd H1 ((⟨H.size, 0, none⟩ : Addr).add 5) = some (.bool x21) ∧ (
  iteB x21 (
  R (.bool false) H1) (
  ∃ x22 : Bool, rd H1 ((⟨H.size, 0, none⟩ : Addr).add 6) = some (.bool x22) ∧ (
  iteB x22 (
  R (.bool false) H1) (
  J_ H1))))) (
  J_ H1)))))))))))) ∧ (∀ H2 : Heap, J_ H2 → F_ref18_ValidFunction_k3 R H H2))))))))))))))))))))))

theorem F_ref18_ValidFunction_eq (R : Value → Heap → Prop) (f_0 : Int) (f_1 : Int) (f_2 : Int) (f_3 : Int) (f_4 : Bool) (f_5 : Bool) (f_6 : Bool) (f_7 : Int) (f_8 : Int) (f_9 : Int) (f_10 : Sl) (H : Heap) : wpF Try.prog Try.f80 [(3, .int .i64 0), (143, .bool false)] [(5, [], [1]), (24, [143], [1, 3, 4])] [(8, [3], [1])] [17] [.agg #[.int .i64 f_0, .int .i64 f_1, .int .i64 f_2, .int .i64 f_3, .bool f_4, .bool f_5, .bool f_6, .int .i64 f_7, .int .i64 f_8, .int .i64 f_9, .slice f_10.p f_10.n f_10.c]] H R = F_ref18_ValidFunction R f_0 f_1 f_2 f_3 f_4 f_5 f_6 f_7 f_8 f_9 f_10 H := by kernel_rfl

theorem F_ref18_ValidFunction_ok {R : Value → Heap → Prop} (f_0 : Int) (f_1 : Int) (f_2 : Int) (f_3 : Int) (f_4 : Bool) (f_5 : Bool) (f_6 : Bool) (f_7 : Int) (f_8 : Int) (f_9 : Int) (f_10 : Sl) {H : Heap} (h : F_ref18_ValidFunction R f_0 f_1 f_2 f_3 f_4 f_5 f_6 f_7 f_8 f_9 f_10 H) : CallsH Try.prog n_ref18_ValidFunction #[.agg #[.int .i64 f_0, .int .i64 f_1, .int .i64 f_2, .int .i64 f_3, .bool f_4, .bool f_5, .bool f_6, .int .i64 f_7, .int .i64 f_8, .int .i64 f_9, .slice f_10.p f_10.n f_10.c]] H R :=
  wpF_ok Try.func80 (F_ref18_ValidFunction_eq R f_0 f_1 f_2 f_3 f_4 f_5 f_6 f_7 f_8 f_9 f_10 H) h

/-! ### 81: platformfw/platformfwref18.bar -/

def F_ref18_bar (R : Value → Heap → Prop) (f_0 : Int) (f_1 : Int) (f_2 : Int) (f_3 : Int) (f_4 : Bool) (f_5 : Bool) (f_6 : Bool) (f_7 : Int) (f_8 : Int) (f_9 : Int) (f_10 : Sl) (i : Int) (H : Heap) : Prop :=
  letH (H.push (.cells #[.int .i64 f_0, .int .i64 f_1, .int .i64 f_2, .int .i64 f_3, .bool f_4, .bool f_5, .bool f_6, .int .i64 f_7, .int .i64 f_8, .int .i64 f_9, .slice f_10.p f_10.n f_10.c] t_api_Function (0, 0))) (fun H1 : Heap =>
  letH (H1.push (.cells #[.int .i64 (0 : Int), .int .i64 (0 : Int)] t_api_Bar (0, 0))) (fun H2 : Heap =>
  iteB (decide (i < (0 : Int))) (
  okRow H2 (⟨H1.size, 0, none⟩ : Addr) 2 ∧ (
  letH (wrs H2 (⟨H1.size, 0, none⟩ : Addr) [.int .i64 (0 : Int), .int .i64 (0 : Int)]) (fun H3 : Heap =>
  ∃ r : Int, rd H3 (⟨H1.size, 0, none⟩ : Addr) = some (.int .i64 r) ∧ ∃ r1 : Int, rd H3 ((⟨H1.size, 0, none⟩ : Addr).add 1) = some (.int .i64 r1) ∧ (
  R (.agg #[.int .i64 r, .int .i64 r1]) H3)))) (
  ∃ x : Sl, rd H2 ((⟨H.size, 0, none⟩ : Addr).add 10) = some (.slice x.p x.n x.c) ∧ (
  iteB (decide (i ≥ (x.n : Int))) (
  okRow H2 (⟨H1.size, 0, none⟩ : Addr) 2 ∧ (
  letH (wrs H2 (⟨H1.size, 0, none⟩ : Addr) [.int .i64 (0 : Int), .int .i64 (0 : Int)]) (fun H4 : Heap =>
  ∃ r2 : Int, rd H4 (⟨H1.size, 0, none⟩ : Addr) = some (.int .i64 r2) ∧ ∃ r3 : Int, rd H4 ((⟨H1.size, 0, none⟩ : Addr).add 1) = some (.int .i64 r3) ∧ (
  R (.agg #[.int .i64 r2, .int .i64 r3]) H4)))) (
  ∃ x1 : Sl, rd H2 ((⟨H.size, 0, none⟩ : Addr).add 10) = some (.slice x1.p x1.n x1.c) ∧ (
  0 ≤ i ∧ i < (x1.n : Int) ∧ (unSome x1.p (fun a =>
  ∃ x2 : Int, rd H2 (a.add (i.toNat * 2)) = some (.int .i64 x2) ∧ ∃ x3 : Int, rd H2 ((a.add (i.toNat * 2)).add 1) = some (.int .i64 x3) ∧ (
  okRow H2 (⟨H1.size, 0, none⟩ : Addr) 2 ∧ (
  letH (wrs H2 (⟨H1.size, 0, none⟩ : Addr) [.int .i64 x2, .int .i64 x3]) (fun H5 : Heap =>
  ∃ r4 : Int, rd H5 (⟨H1.size, 0, none⟩ : Addr) = some (.int .i64 r4) ∧ ∃ r5 : Int, rd H5 ((⟨H1.size, 0, none⟩ : Addr).add 1) = some (.int .i64 r5) ∧ (
  R (.agg #[.int .i64 r4, .int .i64 r5]) H5))))))))))))

theorem F_ref18_bar_eq (R : Value → Heap → Prop) (f_0 : Int) (f_1 : Int) (f_2 : Int) (f_3 : Int) (f_4 : Bool) (f_5 : Bool) (f_6 : Bool) (f_7 : Int) (f_8 : Int) (f_9 : Int) (f_10 : Sl) (i : Int) (H : Heap) : wpF Try.prog Try.f81 [] [] [] [17] [.agg #[.int .i64 f_0, .int .i64 f_1, .int .i64 f_2, .int .i64 f_3, .bool f_4, .bool f_5, .bool f_6, .int .i64 f_7, .int .i64 f_8, .int .i64 f_9, .slice f_10.p f_10.n f_10.c], .int .i64 i] H R = F_ref18_bar R f_0 f_1 f_2 f_3 f_4 f_5 f_6 f_7 f_8 f_9 f_10 i H := by kernel_rfl

theorem F_ref18_bar_ok {R : Value → Heap → Prop} (f_0 : Int) (f_1 : Int) (f_2 : Int) (f_3 : Int) (f_4 : Bool) (f_5 : Bool) (f_6 : Bool) (f_7 : Int) (f_8 : Int) (f_9 : Int) (f_10 : Sl) (i : Int) {H : Heap} (h : F_ref18_bar R f_0 f_1 f_2 f_3 f_4 f_5 f_6 f_7 f_8 f_9 f_10 i H) : CallsH Try.prog n_ref18_bar #[.agg #[.int .i64 f_0, .int .i64 f_1, .int .i64 f_2, .int .i64 f_3, .bool f_4, .bool f_5, .bool f_6, .int .i64 f_7, .int .i64 f_8, .int .i64 f_9, .slice f_10.p f_10.n f_10.c], .int .i64 i] H R :=
  wpF_ok Try.func81 (F_ref18_bar_eq R f_0 f_1 f_2 f_3 f_4 f_5 f_6 f_7 f_8 f_9 f_10 i H) h

/-! ### 82: platformfw/platformfwref18.above -/

def F_ref18_above_r1 (R : Value → Heap → Prop) (l : Sl) (I_ : Int → Heap → Prop) (M_ : Int → Heap → Nat) (i2 : Int) (H1 : Heap) : Prop :=
  iteB (decide (i2 ≥ (0 : Int))) (
  0 ≤ i2 ∧ i2 < (l.n : Int) ∧ (unSome l.p (fun a1 =>
  ∃ x : Bool, rd H1 ((a1.add (i2.toNat * 11)).add 5) = some (.bool x) ∧ (
  iteB (!x) (
  R (.bool false) H1) (
  0 ≤ i2 ∧ i2 < (l.n : Int) ∧ (unSome l.p (fun a2 =>
  ∃ i3 : Int, rd H1 (a2.add (i2.toNat * 11)) = some (.int .i64 i3) ∧ (
  I_ i3 H1 ∧ M_ i3 H1 < M_ i2 H1)))))))) (
  R (.bool true) H1)

def F_ref18_above (R : Value → Heap → Prop) (l : Sl) (i : Int) (H : Heap) : Prop :=
  0 ≤ i ∧ i < (l.n : Int) ∧ (unSome l.p (fun a =>
  ∃ i1 : Int, rd H (a.add (i.toNat * 11)) = some (.int .i64 i1) ∧ (
  ∃ I_ : Int → Heap → Prop, ∃ M_ : Int → Heap → Nat, I_ i1 H ∧ (∀ i2 : Int, ∀ H1 : Heap, I_ i2 H1 → F_ref18_above_r1 R l I_ M_ i2 H1))))

theorem F_ref18_above_eq (R : Value → Heap → Prop) (l : Sl) (i : Int) (H : Heap) : wpF Try.prog Try.f82 [(1, .int .i64 0)] [] [(2, [1], [0])] [17] [.slice l.p l.n l.c, .int .i64 i] H R = F_ref18_above R l i H := by kernel_rfl

theorem F_ref18_above_ok {R : Value → Heap → Prop} (l : Sl) (i : Int) {H : Heap} (h : F_ref18_above R l i H) : CallsH Try.prog n_ref18_above #[.slice l.p l.n l.c, .int .i64 i] H R :=
  wpF_ok Try.func82 (F_ref18_above_eq R l i H) h

/-! ### 83: platformfw/platformfwref18.WindowSize -/

def F_ref18_WindowSize_k1 (hotplug : Bool) (w : Int) (J_2 : Int → Heap → Prop) (x3 : Bool) (H4 : Heap) : Prop :=
  iteB x3 (
  letV (if (12 : Int) > w then (12 : Int) else w) (fun w1 : Int =>
  J_2 w1 H4)) (
  iteB hotplug (
  letV (if (22 : Int) > w then (22 : Int) else w) (fun w2 : Int =>
  J_2 w2 H4)) (
  J_2 w H4))

def F_ref18_WindowSize_r2 (R : Value → Heap → Prop) (sum : Int) (I_1 : Int → Heap → Prop) (M_1 : Int → Heap → Nat) (w4 : Int) (H6 : Heap) : Prop :=
  0 ≤ (IntKind.u64.wrap w4) ∧ (
  iteB (decide ((IntKind.u64.wrap ((1 : Int) * 2 ^ (min (IntKind.u64.wrap w4).toNat IntKind.u64.bits))) < sum)) (
  letV (IntKind.i64.wrap (w4 + (1 : Int))) (fun w5 : Int =>
  I_1 w5 H6 ∧ M_1 w5 H6 < M_1 w4 H6)) (
  R (.tuple #[.int .i64 w4, .bool true]) H6))

def F_ref18_WindowSize_k3 (R : Value → Heap → Prop) (sum : Int) (w3 : Int) (H5 : Heap) : Prop :=
  ∃ I_1 : Int → Heap → Prop, ∃ M_1 : Int → Heap → Nat, I_1 w3 H5 ∧ (∀ w4 : Int, ∀ H6 : Heap, I_1 w4 H6 → F_ref18_WindowSize_r2 R sum I_1 M_1 w4 H6)

def F_ref18_WindowSize_k4 (R : Value → Heap → Prop) (classv : Int) (hotplug : Bool) (sum : Int) (w : Int) (H3 : Heap) : Prop :=
  ∃ J_2 : Int → Heap → Prop, (
  ∃ J_3 : Bool → Heap → Prop, (
  iteB hotplug (
  J_3 (classv == (0 : Int)) H3) (
  J_3 false H3)) ∧ (∀ x3 : Bool, ∀ H4 : Heap, J_3 x3 H4 → F_ref18_WindowSize_k1 hotplug w J_2 x3 H4)) ∧ (∀ w3 : Int, ∀ H5 : Heap, J_2 w3 H5 → F_ref18_WindowSize_k3 R sum w3 H5)

def F_ref18_WindowSize_r5 (R : Value → Heap → Prop) (sizes : Sl) (classv : Int) (hotplug : Bool) (I_ : Int → Int → Heap → Prop) (M_ : Int → Int → Heap → Nat) (sum : Int) (i : Int) (H2 : Heap) : Prop :=
  iteB (decide (i < (sizes.n : Int))) (
  0 ≤ i ∧ i < (sizes.n : Int) ∧ (unSome sizes.p (fun a =>
  ∃ x : Int, rd H2 (a.add (i.toNat * 1)) = some (.int .i64 x) ∧ (
  iteB (decide (x < (0 : Int))) (
  R (.tuple #[.int .i64 (0 : Int), .bool false]) H2) (
  0 ≤ i ∧ i < (sizes.n : Int) ∧ (unSome sizes.p (fun a1 =>
  ∃ x1 : Int, rd H2 (a1.add (i.toNat * 1)) = some (.int .i64 x1) ∧ (
  iteB (decide (x1 > (44 : Int))) (
  R (.tuple #[.int .i64 (0 : Int), .bool false]) H2) (
  0 ≤ i ∧ i < (sizes.n : Int) ∧ (unSome sizes.p (fun a2 =>
  ∃ x2 : Int, rd H2 (a2.add (i.toNat * 1)) = some (.int .i64 x2) ∧ (
  0 ≤ (IntKind.u64.wrap x2) ∧ (
  letV (IntKind.u64.wrap (sum + (IntKind.u64.wrap ((1 : Int) * 2 ^ (min (IntKind.u64.wrap x2).toNat IntKind.u64.bits))))) (fun sum1 : Int =>
  letV (IntKind.i64.wrap (i + (1 : Int))) (fun i1 : Int =>
  I_ sum1 i1 H2 ∧ M_ sum1 i1 H2 < M_ sum i H2))))))))))))))) (
  ∃ J_1 : Int → Heap → Prop, (
  iteB (classv == (0 : Int)) (
  J_1 (12 : Int) H2) (
  J_1 (20 : Int) H2)) ∧ (∀ w : Int, ∀ H3 : Heap, J_1 w H3 → F_ref18_WindowSize_k4 R classv hotplug sum w H3))

def F_ref18_WindowSize_k6 (R : Value → Heap → Prop) (sizes : Sl) (classv : Int) (hotplug : Bool) (H1 : Heap) : Prop :=
  ∃ I_ : Int → Int → Heap → Prop, ∃ M_ : Int → Int → Heap → Nat, I_ (0 : Int) (0 : Int) H1 ∧ (∀ sum : Int, ∀ i : Int, ∀ H2 : Heap, I_ sum i H2 → F_ref18_WindowSize_r5 R sizes classv hotplug I_ M_ sum i H2)

def F_ref18_WindowSize (R : Value → Heap → Prop) (sizes : Sl) (classv : Int) (hotplug : Bool) (H : Heap) : Prop :=
  ∃ J_ : Heap → Prop, (
  iteB (decide (classv < (0 : Int))) (
  R (.tuple #[.int .i64 (0 : Int), .bool false]) H) (
  iteB (decide (classv ≥ (3 : Int))) (
  R (.tuple #[.int .i64 (0 : Int), .bool false]) H) (
  iteB (decide ((sizes.n : Int) > (1024 : Int))) (
  R (.tuple #[.int .i64 (0 : Int), .bool false]) H) (
  iteB ((sizes.n : Int) == (0 : Int)) (
  iteB (!hotplug) (
  R (.tuple #[.int .i64 (0 : Int), .bool false]) H) (
  J_ H)) (
  J_ H))))) ∧ (∀ H1 : Heap, J_ H1 → F_ref18_WindowSize_k6 R sizes classv hotplug H1)

theorem F_ref18_WindowSize_eq (R : Value → Heap → Prop) (sizes : Sl) (classv : Int) (hotplug : Bool) (H : Heap) : wpF Try.prog Try.f83 [(8, .int .u64 0), (9, .int .i64 0), (10, .int .i64 0), (63, .bool false)] [(3, [], [0, 1, 2]), (13, [10], [1, 2, 8]), (17, [10], [8]), (14, [63], [2, 8, 10])] [(5, [8, 9], [0, 1, 2]), (17, [10], [8])] [17] [.slice sizes.p sizes.n sizes.c, .int .i64 classv, .bool hotplug] H R = F_ref18_WindowSize R sizes classv hotplug H := by kernel_rfl

theorem F_ref18_WindowSize_ok {R : Value → Heap → Prop} (sizes : Sl) (classv : Int) (hotplug : Bool) {H : Heap} (h : F_ref18_WindowSize R sizes classv hotplug H) : CallsH Try.prog n_ref18_WindowSize #[.slice sizes.p sizes.n sizes.c, .int .i64 classv, .bool hotplug] H R :=
  wpF_ok Try.func83 (F_ref18_WindowSize_eq R sizes classv hotplug H) h

/-! ### 84: platformfw/platformfwref21.within -/

def F_ref21_within_r1 (R : Value → Heap → Prop) (l : Sl) (fromv : Int) (to : Int) (I_ : Int → Heap → Prop) (M_ : Int → Heap → Nat) (i : Int) (H2 : Heap) : Prop :=
  iteB (decide (i < (l.n : Int))) (
  0 ≤ i ∧ i < (l.n : Int) ∧ (unSome l.p (fun a =>
  ∃ x1 : Int, rd H2 (a.add (i.toNat * 2)) = some (.int .u64 x1) ∧ (
  iteB (decide (x1 < fromv)) (
  R (.bool false) H2) (
  0 ≤ i ∧ i < (l.n : Int) ∧ (unSome l.p (fun a1 =>
  ∃ x2 : Int, rd H2 (a1.add (i.toNat * 2)) = some (.int .u64 x2) ∧ (
  0 ≤ i ∧ i < (l.n : Int) ∧ (unSome l.p (fun a2 =>
  ∃ x3 : Int, rd H2 ((a2.add (i.toNat * 2)).add 1) = some (.int .u64 x3) ∧ (
  iteB (decide ((IntKind.u64.wrap (x2 + x3)) > to)) (
  R (.bool false) H2) (
  letV (IntKind.i64.wrap (i + (1 : Int))) (fun i1 : Int =>
  I_ i1 H2 ∧ M_ i1 H2 < M_ i H2))))))))))))) (
  R (.bool true) H2)

def F_ref21_within (R : Value → Heap → Prop) (l : Sl) (fromv : Int) (to : Int) (H : Heap) : Prop :=
  iteB (decide ((l.n : Int) > (16 : Int))) (
  R (.bool false) H) (
  CallsH Try.prog n_ref21_ValidRanges #[.slice l.p l.n l.c] H (fun v H1 =>
  ∃ x : Bool, v = .bool x ∧ (
  iteB (!x) (
  R (.bool false) H1) (
  ∃ I_ : Int → Heap → Prop, ∃ M_ : Int → Heap → Nat, I_ (0 : Int) H1 ∧ (∀ i : Int, ∀ H2 : Heap, I_ i H2 → F_ref21_within_r1 R l fromv to I_ M_ i H2)))))

theorem F_ref21_within_eq (R : Value → Heap → Prop) (l : Sl) (fromv : Int) (to : Int) (H : Heap) : wpF Try.prog Try.f84 [(7, .int .i64 0)] [] [(4, [7], [0, 1, 2])] [17] [.slice l.p l.n l.c, .int .u64 fromv, .int .u64 to] H R = F_ref21_within R l fromv to H := by kernel_rfl

theorem F_ref21_within_ok {R : Value → Heap → Prop} (l : Sl) (fromv : Int) (to : Int) {H : Heap} (h : F_ref21_within R l fromv to H) : CallsH Try.prog n_ref21_within #[.slice l.p l.n l.c, .int .u64 fromv, .int .u64 to] H R :=
  wpF_ok Try.func84 (F_ref21_within_eq R l fromv to H) h

/-! ### 85: slices.insertionSortCmpFunc[int] -/

def F_slices_insertionSortCmpFunc_int_r1 (data : Sl) (a : Int) (cap : Addr) (I_ : Int → Heap → Prop) (M_ : Int → Heap → Nat) (i1 : Int) (H1 : Heap) (I_1 : Int → Heap → Prop) (M_1 : Int → Heap → Nat) (j : Int) (H2 : Heap) : Prop :=
  iteB (decide (j > a)) (
  0 ≤ j ∧ j < (data.n : Int) ∧ (unSome data.p (fun a1 =>
  ∃ x : Int, rd H2 (a1.add (j.toNat * 1)) = some (.int .i64 x) ∧ (
  0 ≤ (IntKind.i64.wrap (j - (1 : Int))) ∧ (IntKind.i64.wrap (j - (1 : Int))) < (data.n : Int) ∧ (unSome data.p (fun a2 =>
  ∃ x1 : Int, rd H2 (a2.add ((IntKind.i64.wrap (j - (1 : Int))).toNat * 1)) = some (.int .i64 x1) ∧ (
  CallsH Try.prog n_allocate_Place_1 #[.int .i64 x, .int .i64 x1, .pointer (some cap)] H2 (fun v H3 =>
  ∃ x2 : Int, v = .int .i64 x2 ∧ (
  iteB (decide (x2 < (0 : Int))) (
  0 ≤ (IntKind.i64.wrap (j - (1 : Int))) ∧ (IntKind.i64.wrap (j - (1 : Int))) < (data.n : Int) ∧ (unSome data.p (fun a3 =>
  ∃ x3 : Int, rd H3 (a3.add ((IntKind.i64.wrap (j - (1 : Int))).toNat * 1)) = some (.int .i64 x3) ∧ (
  0 ≤ j ∧ j < (data.n : Int) ∧ (unSome data.p (fun a4 =>
  ∃ x4 : Int, rd H3 (a4.add (j.toNat * 1)) = some (.int .i64 x4) ∧ (
  0 ≤ j ∧ j < (data.n : Int) ∧ (unSome data.p (fun a5 =>
  okRow H3 (a5.add (j.toNat * 1)) 1 ∧ (
  letH (wrs H3 (a5.add (j.toNat * 1)) [.int .i64 x3]) (fun H4 : Heap =>
  0 ≤ (IntKind.i64.wrap (j - (1 : Int))) ∧ (IntKind.i64.wrap (j - (1 : Int))) < (data.n : Int) ∧ (unSome data.p (fun a6 =>
  okRow H4 (a6.add ((IntKind.i64.wrap (j - (1 : Int))).toNat * 1)) 1 ∧ (
  letH (wrs H4 (a6.add ((IntKind.i64.wrap (j - (1 : Int))).toNat * 1)) [.int .i64 x4]) (fun H5 : Heap =>
  letV (IntKind.i64.wrap (j - (1 : Int))) (fun j1 : Int =>
  I_1 j1 H5 ∧ M_1 j1 H5 < M_1 j H2)))))))))))))))) (
  letV (IntKind.i64.wrap (i1 + (1 : Int))) (fun i2 : Int =>
  I_ i2 H3 ∧ M_ i2 H3 < M_ i1 H1))))))))))) (
  letV (IntKind.i64.wrap (i1 + (1 : Int))) (fun i3 : Int =>
  I_ i3 H2 ∧ M_ i3 H2 < M_ i1 H1))

def F_slices_insertionSortCmpFunc_int_r2 (R : Value → Heap → Prop) (data : Sl) (a : Int) (b : Int) (cap : Addr) (I_ : Int → Heap → Prop) (M_ : Int → Heap → Nat) (i1 : Int) (H1 : Heap) : Prop :=
  iteB (decide (i1 < b)) (
  ∃ I_1 : Int → Heap → Prop, ∃ M_1 : Int → Heap → Nat, I_1 i1 H1 ∧ (∀ j : Int, ∀ H2 : Heap, I_1 j H2 → F_slices_insertionSortCmpFunc_int_r1 data a cap I_ M_ i1 H1 I_1 M_1 j H2)) (
  R (.tuple #[]) H1)

def F_slices_insertionSortCmpFunc_int (R : Value → Heap → Prop) (data : Sl) (a : Int) (b : Int) (cap : Addr) (H : Heap) : Prop :=
  letV (IntKind.i64.wrap (a + (1 : Int))) (fun i : Int =>
  ∃ I_ : Int → Heap → Prop, ∃ M_ : Int → Heap → Nat, I_ i H ∧ (∀ i1 : Int, ∀ H1 : Heap, I_ i1 H1 → F_slices_insertionSortCmpFunc_int_r2 R data a b cap I_ M_ i1 H1))

theorem F_slices_insertionSortCmpFunc_int_eq (R : Value → Heap → Prop) (data : Sl) (a : Int) (b : Int) (cap : Addr) (H : Heap) : wpF Try.prog Try.f85 [(8, .int .i64 0), (9, .int .i64 0)] [] [(1, [8], [0, 1, 2, 3]), (4, [9], [0, 1, 2, 3, 8])] [17] [.slice data.p data.n data.c, .int .i64 a, .int .i64 b, .func (.func 35) #[] #[.pointer (some cap)]] H R = F_slices_insertionSortCmpFunc_int R data a b cap H := by kernel_rfl

theorem F_slices_insertionSortCmpFunc_int_ok {R : Value → Heap → Prop} (data : Sl) (a : Int) (b : Int) (cap : Addr) {H : Heap} (h : F_slices_insertionSortCmpFunc_int R data a b cap H) : CallsH Try.prog n_slices_insertionSortCmpFunc_int #[.slice data.p data.n data.c, .int .i64 a, .int .i64 b, .func (.func 35) #[] #[.pointer (some cap)]] H R :=
  wpF_ok Try.func85 (F_slices_insertionSortCmpFunc_int_eq R data a b cap H) h

/-! ### 86: slices.symMergeCmpFunc[int] -/

def F_slices_symMergeCmpFunc_int_r1 (R : Value → Heap → Prop) (data : Sl) (i : Int) (I_1 : Int → Heap → Prop) (M_1 : Int → Heap → Nat) (k : Int) (H3 : Heap) : Prop :=
  iteB (decide (k < (IntKind.i64.wrap (i - (1 : Int))))) (
  0 ≤ (IntKind.i64.wrap (k + (1 : Int))) ∧ (IntKind.i64.wrap (k + (1 : Int))) < (data.n : Int) ∧ (unSome data.p (fun a3 =>
  ∃ x3 : Int, rd H3 (a3.add ((IntKind.i64.wrap (k + (1 : Int))).toNat * 1)) = some (.int .i64 x3) ∧ (
  0 ≤ k ∧ k < (data.n : Int) ∧ (unSome data.p (fun a4 =>
  ∃ x4 : Int, rd H3 (a4.add (k.toNat * 1)) = some (.int .i64 x4) ∧ (
  0 ≤ k ∧ k < (data.n : Int) ∧ (unSome data.p (fun a5 =>
  okRow H3 (a5.add (k.toNat * 1)) 1 ∧ (
  letH (wrs H3 (a5.add (k.toNat * 1)) [.int .i64 x3]) (fun H4 : Heap =>
  0 ≤ (IntKind.i64.wrap (k + (1 : Int))) ∧ (IntKind.i64.wrap (k + (1 : Int))) < (data.n : Int) ∧ (unSome data.p (fun a6 =>
  okRow H4 (a6.add ((IntKind.i64.wrap (k + (1 : Int))).toNat * 1)) 1 ∧ (
  letH (wrs H4 (a6.add ((IntKind.i64.wrap (k + (1 : Int))).toNat * 1)) [.int .i64 x4]) (fun H5 : Heap =>
  letV (IntKind.i64.wrap (k + (1 : Int))) (fun k1 : Int =>
  I_1 k1 H5 ∧ M_1 k1 H5 < M_1 k H3)))))))))))))))) (
  R (.tuple #[]) H3)

def F_slices_symMergeCmpFunc_int_r2 (R : Value → Heap → Prop) (data : Sl) (a : Int) (cap : Addr) (I_ : Int → Int → Heap → Prop) (M_ : Int → Int → Heap → Nat) (i : Int) (j : Int) (H1 : Heap) : Prop :=
  iteB (decide (i < j)) (
  0 ≤ (1 : Int) ∧ (
  letV (IntKind.i64.wrap ((IntKind.u64.wrap (IntKind.i64.wrap (i + j))).fdiv (2 ^ (min (1 : Int).toNat IntKind.u64.bits)))) (fun h : Int =>
  0 ≤ h ∧ h < (data.n : Int) ∧ (unSome data.p (fun a1 =>
  ∃ x : Int, rd H1 (a1.add (h.toNat * 1)) = some (.int .i64 x) ∧ (
  0 ≤ a ∧ a < (data.n : Int) ∧ (unSome data.p (fun a2 =>
  ∃ x1 : Int, rd H1 (a2.add (a.toNat * 1)) = some (.int .i64 x1) ∧ (
  CallsH Try.prog n_allocate_Place_1 #[.int .i64 x, .int .i64 x1, .pointer (some cap)] H1 (fun v H2 =>
  ∃ x2 : Int, v = .int .i64 x2 ∧ (
  iteB (decide (x2 < (0 : Int))) (
  letV (IntKind.i64.wrap (h + (1 : Int))) (fun i1 : Int =>
  I_ i1 j H2 ∧ M_ i1 j H2 < M_ i j H1)) (
  I_ i h H2 ∧ M_ i h H2 < M_ i j H1)))))))))))) (
  ∃ I_1 : Int → Heap → Prop, ∃ M_1 : Int → Heap → Nat, I_1 a H1 ∧ (∀ k : Int, ∀ H3 : Heap, I_1 k H3 → F_slices_symMergeCmpFunc_int_r1 R data i I_1 M_1 k H3))

def F_slices_symMergeCmpFunc_int_r3 (R : Value → Heap → Prop) (data : Sl) (i2 : Int) (I_3 : Int → Heap → Prop) (M_3 : Int → Heap → Nat) (k2 : Int) (H8 : Heap) : Prop :=
  iteB (decide (k2 > i2)) (
  0 ≤ (IntKind.i64.wrap (k2 - (1 : Int))) ∧ (IntKind.i64.wrap (k2 - (1 : Int))) < (data.n : Int) ∧ (unSome data.p (fun a9 =>
  ∃ x8 : Int, rd H8 (a9.add ((IntKind.i64.wrap (k2 - (1 : Int))).toNat * 1)) = some (.int .i64 x8) ∧ (
  0 ≤ k2 ∧ k2 < (data.n : Int) ∧ (unSome data.p (fun a10 =>
  ∃ x9 : Int, rd H8 (a10.add (k2.toNat * 1)) = some (.int .i64 x9) ∧ (
  0 ≤ k2 ∧ k2 < (data.n : Int) ∧ (unSome data.p (fun a11 =>
  okRow H8 (a11.add (k2.toNat * 1)) 1 ∧ (
  letH (wrs H8 (a11.add (k2.toNat * 1)) [.int .i64 x8]) (fun H9 : Heap =>
  0 ≤ (IntKind.i64.wrap (k2 - (1 : Int))) ∧ (IntKind.i64.wrap (k2 - (1 : Int))) < (data.n : Int) ∧ (unSome data.p (fun a12 =>
  okRow H9 (a12.add ((IntKind.i64.wrap (k2 - (1 : Int))).toNat * 1)) 1 ∧ (
  letH (wrs H9 (a12.add ((IntKind.i64.wrap (k2 - (1 : Int))).toNat * 1)) [.int .i64 x9]) (fun H10 : Heap =>
  letV (IntKind.i64.wrap (k2 - (1 : Int))) (fun k3 : Int =>
  I_3 k3 H10 ∧ M_3 k3 H10 < M_3 k2 H8)))))))))))))))) (
  R (.tuple #[]) H8)

def F_slices_symMergeCmpFunc_int_r4 (R : Value → Heap → Prop) (data : Sl) (m : Int) (cap : Addr) (I_2 : Int → Int → Heap → Prop) (M_2 : Int → Int → Heap → Nat) (i2 : Int) (j1 : Int) (H6 : Heap) : Prop :=
  iteB (decide (i2 < j1)) (
  0 ≤ (1 : Int) ∧ (
  letV (IntKind.i64.wrap ((IntKind.u64.wrap (IntKind.i64.wrap (i2 + j1))).fdiv (2 ^ (min (1 : Int).toNat IntKind.u64.bits)))) (fun h1 : Int =>
  0 ≤ m ∧ m < (data.n : Int) ∧ (unSome data.p (fun a7 =>
  ∃ x5 : Int, rd H6 (a7.add (m.toNat * 1)) = some (.int .i64 x5) ∧ (
  0 ≤ h1 ∧ h1 < (data.n : Int) ∧ (unSome data.p (fun a8 =>
  ∃ x6 : Int, rd H6 (a8.add (h1.toNat * 1)) = some (.int .i64 x6) ∧ (
  CallsH Try.prog n_allocate_Place_1 #[.int .i64 x5, .int .i64 x6, .pointer (some cap)] H6 (fun v1 H7 =>
  ∃ x7 : Int, v1 = .int .i64 x7 ∧ (
  iteB (!(decide (x7 < (0 : Int)))) (
  letV (IntKind.i64.wrap (h1 + (1 : Int))) (fun i3 : Int =>
  I_2 i3 j1 H7 ∧ M_2 i3 j1 H7 < M_2 i2 j1 H6)) (
  I_2 i2 h1 H7 ∧ M_2 i2 h1 H7 < M_2 i2 j1 H6)))))))))))) (
  ∃ I_3 : Int → Heap → Prop, ∃ M_3 : Int → Heap → Nat, I_3 m H6 ∧ (∀ k2 : Int, ∀ H8 : Heap, I_3 k2 H8 → F_slices_symMergeCmpFunc_int_r3 R data i2 I_3 M_3 k2 H8))

def F_slices_symMergeCmpFunc_int_k5 (data : Sl) (m : Int) (cap : Addr) (start2 : Int) (endv : Int) (J_1 : Heap → Prop) (x13 : Bool) (H14 : Heap) : Prop :=
  iteB x13 (
  CallsH Try.prog n_slices_rotateCmpFunc_int #[.slice data.p data.n data.c, .int .i64 start2, .int .i64 m, .int .i64 endv, .func (.func 35) #[] #[.pointer (some cap)]] H14 (fun v3 H15 =>
  v3 = .tuple #[] ∧ (
  J_1 H15))) (
  J_1 H14)

def F_slices_symMergeCmpFunc_int_k6 (data : Sl) (a : Int) (cap : Addr) (mid : Int) (start2 : Int) (J_3 : Heap → Prop) (x14 : Bool) (H17 : Heap) : Prop :=
  iteB x14 (
  CallsH Try.prog n_slices_symMergeCmpFunc_int #[.slice data.p data.n data.c, .int .i64 a, .int .i64 start2, .int .i64 mid, .func (.func 35) #[] #[.pointer (some cap)]] H17 (fun v4 H18 =>
  v4 = .tuple #[] ∧ (
  J_3 H18))) (
  J_3 H17)

def F_slices_symMergeCmpFunc_int_k7 (R : Value → Heap → Prop) (data : Sl) (b : Int) (cap : Addr) (mid : Int) (endv : Int) (x15 : Bool) (H20 : Heap) : Prop :=
  iteB x15 (
  CallsH Try.prog n_slices_symMergeCmpFunc_int #[.slice data.p data.n data.c, .int .i64 mid, .int .i64 endv, .int .i64 b, .func (.func 35) #[] #[.pointer (some cap)]] H20 (fun v5 H21 =>
  v5 = .tuple #[] ∧ (
  R (.tuple #[]) H21))) (
  R (.tuple #[]) H20)

def F_slices_symMergeCmpFunc_int_k8 (R : Value → Heap → Prop) (data : Sl) (b : Int) (cap : Addr) (mid : Int) (endv : Int) (H19 : Heap) : Prop :=
  ∃ J_5 : Bool → Heap → Prop, (
  iteB (decide (mid < endv)) (
  J_5 (decide (endv < b)) H19) (
  J_5 false H19)) ∧ (∀ x15 : Bool, ∀ H20 : Heap, J_5 x15 H20 → F_slices_symMergeCmpFunc_int_k7 R data b cap mid endv x15 H20)

def F_slices_symMergeCmpFunc_int_k9 (R : Value → Heap → Prop) (data : Sl) (a : Int) (b : Int) (cap : Addr) (mid : Int) (start2 : Int) (endv : Int) (H16 : Heap) : Prop :=
  ∃ J_3 : Heap → Prop, (
  ∃ J_4 : Bool → Heap → Prop, (
  iteB (decide (a < start2)) (
  J_4 (decide (start2 < mid)) H16) (
  J_4 false H16)) ∧ (∀ x14 : Bool, ∀ H17 : Heap, J_4 x14 H17 → F_slices_symMergeCmpFunc_int_k6 data a cap mid start2 J_3 x14 H17)) ∧ (∀ H19 : Heap, J_3 H19 → F_slices_symMergeCmpFunc_int_k8 R data b cap mid endv H19)

def F_slices_symMergeCmpFunc_int_r10 (R : Value → Heap → Prop) (data : Sl) (a : Int) (m : Int) (b : Int) (cap : Addr) (mid : Int) (n : Int) (p : Int) (I_4 : Int → Int → Heap → Prop) (M_4 : Int → Int → Heap → Nat) (start2 : Int) (r1 : Int) (H12 : Heap) : Prop :=
  iteB (decide (start2 < r1)) (
  0 ≤ (1 : Int) ∧ (
  letV (IntKind.i64.wrap ((IntKind.u64.wrap (IntKind.i64.wrap (start2 + r1))).fdiv (2 ^ (min (1 : Int).toNat IntKind.u64.bits)))) (fun c : Int =>
  0 ≤ (IntKind.i64.wrap (p - c)) ∧ (IntKind.i64.wrap (p - c)) < (data.n : Int) ∧ (unSome data.p (fun a13 =>
  ∃ x10 : Int, rd H12 (a13.add ((IntKind.i64.wrap (p - c)).toNat * 1)) = some (.int .i64 x10) ∧ (
  0 ≤ c ∧ c < (data.n : Int) ∧ (unSome data.p (fun a14 =>
  ∃ x11 : Int, rd H12 (a14.add (c.toNat * 1)) = some (.int .i64 x11) ∧ (
  CallsH Try.prog n_allocate_Place_1 #[.int .i64 x10, .int .i64 x11, .pointer (some cap)] H12 (fun v2 H13 =>
  ∃ x12 : Int, v2 = .int .i64 x12 ∧ (
  iteB (!(decide (x12 < (0 : Int)))) (
  letV (IntKind.i64.wrap (c + (1 : Int))) (fun start3 : Int =>
  I_4 start3 r1 H13 ∧ M_4 start3 r1 H13 < M_4 start2 r1 H12)) (
  I_4 start2 c H13 ∧ M_4 start2 c H13 < M_4 start2 r1 H12)))))))))))) (
  letV (IntKind.i64.wrap (n - start2)) (fun endv : Int =>
  ∃ J_1 : Heap → Prop, (
  ∃ J_2 : Bool → Heap → Prop, (
  iteB (decide (start2 < m)) (
  J_2 (decide (m < endv)) H12) (
  J_2 false H12)) ∧ (∀ x13 : Bool, ∀ H14 : Heap, J_2 x13 H14 → F_slices_symMergeCmpFunc_int_k5 data m cap start2 endv J_1 x13 H14)) ∧ (∀ H16 : Heap, J_1 H16 → F_slices_symMergeCmpFunc_int_k9 R data a b cap mid start2 endv H16)))

def F_slices_symMergeCmpFunc_int_k11 (R : Value → Heap → Prop) (data : Sl) (a : Int) (m : Int) (b : Int) (cap : Addr) (mid : Int) (n : Int) (start1 : Int) (r : Int) (H11 : Heap) : Prop :=
  letV (IntKind.i64.wrap (n - (1 : Int))) (fun p : Int =>
  ∃ I_4 : Int → Int → Heap → Prop, ∃ M_4 : Int → Int → Heap → Nat, I_4 start1 r H11 ∧ (∀ start2 : Int, ∀ r1 : Int, ∀ H12 : Heap, I_4 start2 r1 H12 → F_slices_symMergeCmpFunc_int_r10 R data a m b cap mid n p I_4 M_4 start2 r1 H12))

def F_slices_symMergeCmpFunc_int (R : Value → Heap → Prop) (data : Sl) (a : Int) (m : Int) (b : Int) (cap : Addr) (H : Heap) : Prop :=
  iteB ((IntKind.i64.wrap (m - a)) == (1 : Int)) (
  ∃ I_ : Int → Int → Heap → Prop, ∃ M_ : Int → Int → Heap → Nat, I_ m b H ∧ (∀ i : Int, ∀ j : Int, ∀ H1 : Heap, I_ i j H1 → F_slices_symMergeCmpFunc_int_r2 R data a cap I_ M_ i j H1)) (
  iteB ((IntKind.i64.wrap (b - m)) == (1 : Int)) (
  ∃ I_2 : Int → Int → Heap → Prop, ∃ M_2 : Int → Int → Heap → Nat, I_2 a m H ∧ (∀ i2 : Int, ∀ j1 : Int, ∀ H6 : Heap, I_2 i2 j1 H6 → F_slices_symMergeCmpFunc_int_r4 R data m cap I_2 M_2 i2 j1 H6)) (
  0 ≤ (1 : Int) ∧ (
  letV (IntKind.i64.wrap ((IntKind.u64.wrap (IntKind.i64.wrap (a + b))).fdiv (2 ^ (min (1 : Int).toNat IntKind.u64.bits)))) (fun mid : Int =>
  letV (IntKind.i64.wrap (mid + m)) (fun n : Int =>
  ∃ J_ : Int → Int → Heap → Prop, (
  iteB (decide (m > mid)) (
  letV (IntKind.i64.wrap (n - b)) (fun start : Int =>
  J_ start mid H)) (
  J_ a m H)) ∧ (∀ start1 : Int, ∀ r : Int, ∀ H11 : Heap, J_ start1 r H11 → F_slices_symMergeCmpFunc_int_k11 R data a m b cap mid n start1 r H11))))))

theorem F_slices_symMergeCmpFunc_int_eq (R : Value → Heap → Prop) (data : Sl) (a : Int) (m : Int) (b : Int) (cap : Addr) (H : Heap) : wpF Try.prog Try.f86 [(10, .int .i64 0), (11, .int .i64 0), (13, .int .i64 0), (14, .int .i64 0), (15, .int .i64 0), (17, .int .i64 0), (20, .int .i64 0), (21, .int .i64 0), (185, .bool false), (199, .bool false), (213, .bool false)] [(32, [20, 21], [0, 1, 2, 3, 4, 18, 19]), (41, [], [0, 1, 3, 4, 18, 20, 24]), (40, [185], [0, 1, 2, 3, 4, 18, 20, 24]), (43, [], [0, 3, 4, 18, 24]), (42, [199], [0, 1, 3, 4, 18, 20, 24]), (44, [213], [0, 3, 4, 18, 24])] [(3, [10, 11], [0, 1, 4]), (9, [13], [0, 10]), (15, [14, 15], [0, 2, 4]), (21, [17], [0, 14]), (33, [20, 21], [0, 1, 2, 3, 4, 18, 19, 22])] [17] [.slice data.p data.n data.c, .int .i64 a, .int .i64 m, .int .i64 b, .func (.func 35) #[] #[.pointer (some cap)]] H R = F_slices_symMergeCmpFunc_int R data a m b cap H := by kernel_rfl

theorem F_slices_symMergeCmpFunc_int_ok {R : Value → Heap → Prop} (data : Sl) (a : Int) (m : Int) (b : Int) (cap : Addr) {H : Heap} (h : F_slices_symMergeCmpFunc_int R data a m b cap H) : CallsH Try.prog n_slices_symMergeCmpFunc_int #[.slice data.p data.n data.c, .int .i64 a, .int .i64 m, .int .i64 b, .func (.func 35) #[] #[.pointer (some cap)]] H R :=
  wpF_ok Try.func86 (F_slices_symMergeCmpFunc_int_eq R data a m b cap H) h

/-! ### 88: math/bits.Len -/

def F_math_bits_Len (R : Value → Heap → Prop) (x : Int) (H : Heap) : Prop :=
  CallsH Try.prog n_math_bits_Len64 #[.int .u64 x] H (fun v H1 =>
  ∃ x1 : Int, v = .int .i64 x1 ∧ (
  R (.int .i64 x1) H1))

theorem F_math_bits_Len_eq (R : Value → Heap → Prop) (x : Int) (H : Heap) : wpF Try.prog Try.f88 [] [] [] [17] [.int .u64 x] H R = F_math_bits_Len R x H := by kernel_rfl

theorem F_math_bits_Len_ok {R : Value → Heap → Prop} (x : Int) {H : Heap} (h : F_math_bits_Len R x H) : CallsH Try.prog n_math_bits_Len #[.int .u64 x] H R :=
  wpF_ok Try.func88 (F_math_bits_Len_eq R x H) h

/-! ### 89: cmp.isNaN[uint64] -/

def F_cmp_isNaN_uint64 (R : Value → Heap → Prop) (x : Int) (H : Heap) : Prop :=
  R (.bool (x != x)) H

theorem F_cmp_isNaN_uint64_eq (R : Value → Heap → Prop) (x : Int) (H : Heap) : wpF Try.prog Try.f89 [] [] [] [17] [.int .u64 x] H R = F_cmp_isNaN_uint64 R x H := by kernel_rfl

theorem F_cmp_isNaN_uint64_ok {R : Value → Heap → Prop} (x : Int) {H : Heap} (h : F_cmp_isNaN_uint64 R x H) : CallsH Try.prog n_cmp_isNaN_uint64 #[.int .u64 x] H R :=
  wpF_ok Try.func89 (F_cmp_isNaN_uint64_eq R x H) h

/-! ### 94: platformfw/pciconf.registers -/

def F_pciconf_registers (R : Value → Heap → Prop) (bridge : Bool) (H : Heap) : Prop :=
  iteB bridge (
  R (.int .i64 (2 : Int)) H) (
  R (.int .i64 (6 : Int)) H)

theorem F_pciconf_registers_eq (R : Value → Heap → Prop) (bridge : Bool) (H : Heap) : wpF Try.prog Try.f94 [] [] [] [17] [.bool bridge] H R = F_pciconf_registers R bridge H := by kernel_rfl

theorem F_pciconf_registers_ok {R : Value → Heap → Prop} (bridge : Bool) {H : Heap} (h : F_pciconf_registers R bridge H) : CallsH Try.prog n_pciconf_registers #[.bool bridge] H R :=
  wpF_ok Try.func94 (F_pciconf_registers_eq R bridge H) h

/-! ### 95: platformfw/pciconf.validBar -/

def F_pciconf_validBar_k1 (R : Value → Heap → Prop) (l : Sl) (i : Int) (size : Int) (x1 : Bool) (H1 : Heap) : Prop :=
  iteB x1 (
  iteB (decide (size ≥ (4 : Int))) (
  iteB (decide (size ≤ (40 : Int))) (
  iteB (decide ((IntKind.i64.wrap (i + (1 : Int))) < (l.n : Int))) (
  0 ≤ (IntKind.i64.wrap (i + (1 : Int))) ∧ (IntKind.i64.wrap (i + (1 : Int))) < (l.n : Int) ∧ (unSome l.p (fun a2 =>
  ∃ x2 : Int, rd H1 (a2.add ((IntKind.i64.wrap (i + (1 : Int))).toNat * 2)) = some (.int .i64 x2) ∧ (
  R (.bool (x2 == (0 : Int))) H1)))) (
  R (.bool false) H1)) (
  R (.bool false) H1)) (
  R (.bool false) H1)) (
  R (.bool false) H1)

def F_pciconf_validBar (R : Value → Heap → Prop) (l : Sl) (i : Int) (H : Heap) : Prop :=
  0 ≤ i ∧ i < (l.n : Int) ∧ (unSome l.p (fun a =>
  ∃ size : Int, rd H ((a.add (i.toNat * 2)).add 1) = some (.int .i64 size) ∧ (
  0 ≤ i ∧ i < (l.n : Int) ∧ (unSome l.p (fun a1 =>
  ∃ x : Int, rd H (a1.add (i.toNat * 2)) = some (.int .i64 x) ∧ (
  iteB (x == (0 : Int)) (
  R (.bool (size == (0 : Int))) H) (
  iteB (x == (1 : Int)) (
  iteB (decide (size ≥ (2 : Int))) (
  R (.bool (decide (size ≤ (8 : Int)))) H) (
  R (.bool false) H)) (
  iteB (x == (2 : Int)) (
  iteB (decide (size ≥ (4 : Int))) (
  R (.bool (decide (size ≤ (31 : Int)))) H) (
  R (.bool false) H)) (
  ∃ J_ : Bool → Heap → Prop, (
  iteB (x == (3 : Int)) (
  J_ true H) (
  J_ (x == (4 : Int)) H)) ∧ (∀ x1 : Bool, ∀ H1 : Heap, J_ x1 H1 → F_pciconf_validBar_k1 R l i size x1 H1))))))))))

theorem F_pciconf_validBar_eq (R : Value → Heap → Prop) (l : Sl) (i : Int) (H : Heap) : wpF Try.prog Try.f95 [(36, .bool false)] [(11, [36], [0, 1, 5])] [] [17] [.slice l.p l.n l.c, .int .i64 i] H R = F_pciconf_validBar R l i H := by kernel_rfl

theorem F_pciconf_validBar_ok {R : Value → Heap → Prop} (l : Sl) (i : Int) {H : Heap} (h : F_pciconf_validBar R l i H) : CallsH Try.prog n_pciconf_validBar #[.slice l.p l.n l.c, .int .i64 i] H R :=
  wpF_ok Try.func95 (F_pciconf_validBar_eq R l i H) h

/-! ### 96: platformfw/resources.classOf -/

def F_resources_classOf (R : Value → Heap → Prop) (l : Sl) (high : Bool) (function : Int) (kind : Int) (H : Heap) : Prop :=
  iteB (kind == (1 : Int)) (
  R (.int .i64 (0 : Int)) H) (
  iteB (kind == (4 : Int)) (
  iteB high (
  CallsH Try.prog n_resources_prefAbove #[.slice l.p l.n l.c, .int .i64 function] H (fun v H1 =>
  ∃ x : Bool, v = .bool x ∧ (
  iteB x (
  R (.int .i64 (2 : Int)) H1) (
  R (.int .i64 (1 : Int)) H1)))) (
  R (.int .i64 (1 : Int)) H)) (
  R (.int .i64 (1 : Int)) H))

theorem F_resources_classOf_eq (R : Value → Heap → Prop) (l : Sl) (high : Bool) (function : Int) (kind : Int) (H : Heap) : wpF Try.prog Try.f96 [] [] [] [17] [.slice l.p l.n l.c, .bool high, .int .i64 function, .int .i64 kind] H R = F_resources_classOf R l high function kind H := by kernel_rfl

theorem F_resources_classOf_ok {R : Value → Heap → Prop} (l : Sl) (high : Bool) (function : Int) (kind : Int) {H : Heap} (h : F_resources_classOf R l high function kind H) : CallsH Try.prog n_resources_classOf #[.slice l.p l.n l.c, .bool high, .int .i64 function, .int .i64 kind] H R :=
  wpF_ok Try.func96 (F_resources_classOf_eq R l high function kind H) h

/-! ### 97: platformfw/resources.prefAbove -/

def F_resources_prefAbove_r1 (R : Value → Heap → Prop) (l : Sl) (I_ : Int → Heap → Prop) (M_ : Int → Heap → Nat) (i1 : Int) (H1 : Heap) : Prop :=
  iteB (decide (i1 ≥ (0 : Int))) (
  0 ≤ i1 ∧ i1 < (l.n : Int) ∧ (unSome l.p (fun a1 =>
  ∃ x : Bool, rd H1 ((a1.add (i1.toNat * 11)).add 5) = some (.bool x) ∧ (
  iteB (!x) (
  R (.bool false) H1) (
  0 ≤ i1 ∧ i1 < (l.n : Int) ∧ (unSome l.p (fun a2 =>
  ∃ i2 : Int, rd H1 (a2.add (i1.toNat * 11)) = some (.int .i64 i2) ∧ (
  I_ i2 H1 ∧ M_ i2 H1 < M_ i1 H1)))))))) (
  R (.bool true) H1)

def F_resources_prefAbove (R : Value → Heap → Prop) (l : Sl) (function : Int) (H : Heap) : Prop :=
  0 ≤ function ∧ function < (l.n : Int) ∧ (unSome l.p (fun a =>
  ∃ i : Int, rd H (a.add (function.toNat * 11)) = some (.int .i64 i) ∧ (
  ∃ I_ : Int → Heap → Prop, ∃ M_ : Int → Heap → Nat, I_ i H ∧ (∀ i1 : Int, ∀ H1 : Heap, I_ i1 H1 → F_resources_prefAbove_r1 R l I_ M_ i1 H1))))

theorem F_resources_prefAbove_eq (R : Value → Heap → Prop) (l : Sl) (function : Int) (H : Heap) : wpF Try.prog Try.f97 [(5, .int .i64 0)] [] [(2, [5], [0])] [17] [.slice l.p l.n l.c, .int .i64 function] H R = F_resources_prefAbove R l function H := by kernel_rfl

theorem F_resources_prefAbove_ok {R : Value → Heap → Prop} (l : Sl) (function : Int) {H : Heap} (h : F_resources_prefAbove R l function H) : CallsH Try.prog n_resources_prefAbove #[.slice l.p l.n l.c, .int .i64 function] H R :=
  wpF_ok Try.func97 (F_resources_prefAbove_eq R l function H) h

/-! ### 98: platformfw/resources.WindowSize -/

def F_resources_WindowSize_k1 (R : Value → Heap → Prop) (sum : Int) (smallest2 : Int) (H4 : Heap) : Prop :=
  iteB (decide (sum > (0 : Int))) (
  CallsH Try.prog n_math_bits_Len64 #[.int .u64 (IntKind.u64.wrap (sum - (1 : Int)))] H4 (fun v H5 =>
  ∃ x1 : Int, v = .int .i64 x1 ∧ (
  letV (if x1 > smallest2 then x1 else smallest2) (fun smallest3 : Int =>
  R (.tuple #[.int .i64 smallest3, .bool true]) H5)))) (
  R (.tuple #[.int .i64 smallest2, .bool true]) H4)

def F_resources_WindowSize_k2 (R : Value → Heap → Prop) (hotplug : Bool) (sum : Int) (smallest : Int) (spare : Int) (H3 : Heap) : Prop :=
  ∃ J_2 : Int → Heap → Prop, (
  iteB hotplug (
  letV (if spare > smallest then spare else smallest) (fun smallest1 : Int =>
  J_2 smallest1 H3)) (
  J_2 smallest H3)) ∧ (∀ smallest2 : Int, ∀ H4 : Heap, J_2 smallest2 H4 → F_resources_WindowSize_k1 R sum smallest2 H4)

def F_resources_WindowSize_r3 (R : Value → Heap → Prop) (sizes : Sl) (classv : Int) (hotplug : Bool) (I_ : Int → Int → Heap → Prop) (M_ : Int → Int → Heap → Nat) (sum : Int) (x : Int) (H2 : Heap) : Prop :=
  iteB (decide (x < (sizes.n : Int))) (
  0 ≤ x ∧ x < (sizes.n : Int) ∧ (unSome sizes.p (fun a =>
  ∃ size : Int, rd H2 (a.add (x.toNat * 1)) = some (.int .i64 size) ∧ (
  iteB (decide (size < (0 : Int))) (
  R (.tuple #[.int .i64 (0 : Int), .bool false]) H2) (
  iteB (decide (size > (44 : Int))) (
  R (.tuple #[.int .i64 (0 : Int), .bool false]) H2) (
  0 ≤ size ∧ (
  letV (IntKind.u64.wrap (sum + (IntKind.u64.wrap ((1 : Int) * 2 ^ (min size.toNat IntKind.u64.bits))))) (fun sum1 : Int =>
  I_ sum1 (IntKind.i64.wrap (x + (1 : Int))) H2 ∧ M_ sum1 (IntKind.i64.wrap (x + (1 : Int))) H2 < M_ sum x H2)))))))) (
  ∃ J_1 : Int → Int → Heap → Prop, (
  iteB (classv == (0 : Int)) (
  J_1 (12 : Int) (12 : Int) H2) (
  J_1 (20 : Int) (22 : Int) H2)) ∧ (∀ smallest : Int, ∀ spare : Int, ∀ H3 : Heap, J_1 smallest spare H3 → F_resources_WindowSize_k2 R hotplug sum smallest spare H3))

def F_resources_WindowSize_k4 (R : Value → Heap → Prop) (sizes : Sl) (classv : Int) (hotplug : Bool) (H1 : Heap) : Prop :=
  ∃ I_ : Int → Int → Heap → Prop, ∃ M_ : Int → Int → Heap → Nat, I_ (0 : Int) (0 : Int) H1 ∧ (∀ sum : Int, ∀ x : Int, ∀ H2 : Heap, I_ sum x H2 → F_resources_WindowSize_r3 R sizes classv hotplug I_ M_ sum x H2)

def F_resources_WindowSize (R : Value → Heap → Prop) (sizes : Sl) (classv : Int) (hotplug : Bool) (H : Heap) : Prop :=
  ∃ J_ : Heap → Prop, (
  iteB ((sizes.n : Int) == (0 : Int)) (
  iteB (!hotplug) (
  R (.tuple #[.int .i64 (0 : Int), .bool false]) H) (
  iteB (decide ((sizes.n : Int) > (1024 : Int))) (
  R (.tuple #[.int .i64 (0 : Int), .bool false]) H) (
  iteB (decide (classv < (0 : Int))) (
  R (.tuple #[.int .i64 (0 : Int), .bool false]) H) (
  iteB (decide (classv ≥ (3 : Int))) (
  R (.tuple #[.int .i64 (0 : Int), .bool false]) H) (
  J_ H))))) (
  iteB (decide ((sizes.n : Int) > (1024 : Int))) (
  R (.tuple #[.int .i64 (0 : Int), .bool false]) H) (
  iteB (decide (classv < (0 : Int))) (
  R (.tuple #[.int .i64 (0 : Int), .bool false]) H) (
  iteB (decide (classv ≥ (3 : Int))) (
  R (.tuple #[.int .i64 (0 : Int), .bool false]) H) (
  J_ H))))) ∧ (∀ H1 : Heap, J_ H1 → F_resources_WindowSize_k4 R sizes classv hotplug H1)

theorem F_resources_WindowSize_eq (R : Value → Heap → Prop) (sizes : Sl) (classv : Int) (hotplug : Bool) (H : Heap) : wpF Try.prog Try.f98 [(8, .int .u64 0), (11, .int .i64 0), (12, .int .i64 0), (35, .int .i64 0)] [(3, [], [0, 1, 2]), (14, [11, 12], [2, 8]), (16, [11], [8])] [(5, [8, 35], [1, 2, 33, 34])] [17] [.slice sizes.p sizes.n sizes.c, .int .i64 classv, .bool hotplug] H R = F_resources_WindowSize R sizes classv hotplug H := by kernel_rfl

theorem F_resources_WindowSize_ok {R : Value → Heap → Prop} (sizes : Sl) (classv : Int) (hotplug : Bool) {H : Heap} (h : F_resources_WindowSize R sizes classv hotplug H) : CallsH Try.prog n_resources_WindowSize #[.slice sizes.p sizes.n sizes.c, .int .i64 classv, .bool hotplug] H R :=
  wpF_ok Try.func98 (F_resources_WindowSize_eq R sizes classv hotplug H) h

/-! ### 99: platformfw/platformfwref18.Registers -/

def F_ref18_Registers (R : Value → Heap → Prop) (f_0 : Int) (f_1 : Int) (f_2 : Int) (f_3 : Int) (f_4 : Bool) (f_5 : Bool) (f_6 : Bool) (f_7 : Int) (f_8 : Int) (f_9 : Int) (f_10 : Sl) (H : Heap) : Prop :=
  letH (H.push (.cells #[.int .i64 f_0, .int .i64 f_1, .int .i64 f_2, .int .i64 f_3, .bool f_4, .bool f_5, .bool f_6, .int .i64 f_7, .int .i64 f_8, .int .i64 f_9, .slice f_10.p f_10.n f_10.c] t_api_Function (0, 0))) (fun H1 : Heap =>
  ∃ x : Bool, rd H1 ((⟨H.size, 0, none⟩ : Addr).add 4) = some (.bool x) ∧ (
  iteB x (
  R (.int .i64 (2 : Int)) H1) (
  R (.int .i64 (6 : Int)) H1)))

theorem F_ref18_Registers_eq (R : Value → Heap → Prop) (f_0 : Int) (f_1 : Int) (f_2 : Int) (f_3 : Int) (f_4 : Bool) (f_5 : Bool) (f_6 : Bool) (f_7 : Int) (f_8 : Int) (f_9 : Int) (f_10 : Sl) (H : Heap) : wpF Try.prog Try.f99 [] [] [] [17] [.agg #[.int .i64 f_0, .int .i64 f_1, .int .i64 f_2, .int .i64 f_3, .bool f_4, .bool f_5, .bool f_6, .int .i64 f_7, .int .i64 f_8, .int .i64 f_9, .slice f_10.p f_10.n f_10.c]] H R = F_ref18_Registers R f_0 f_1 f_2 f_3 f_4 f_5 f_6 f_7 f_8 f_9 f_10 H := by kernel_rfl

theorem F_ref18_Registers_ok {R : Value → Heap → Prop} (f_0 : Int) (f_1 : Int) (f_2 : Int) (f_3 : Int) (f_4 : Bool) (f_5 : Bool) (f_6 : Bool) (f_7 : Int) (f_8 : Int) (f_9 : Int) (f_10 : Sl) {H : Heap} (h : F_ref18_Registers R f_0 f_1 f_2 f_3 f_4 f_5 f_6 f_7 f_8 f_9 f_10 H) : CallsH Try.prog n_ref18_Registers #[.agg #[.int .i64 f_0, .int .i64 f_1, .int .i64 f_2, .int .i64 f_3, .bool f_4, .bool f_5, .bool f_6, .int .i64 f_7, .int .i64 f_8, .int .i64 f_9, .slice f_10.p f_10.n f_10.c]] H R :=
  wpF_ok Try.func99 (F_ref18_Registers_eq R f_0 f_1 f_2 f_3 f_4 f_5 f_6 f_7 f_8 f_9 f_10 H) h

/-! ### 100: slices.rotateCmpFunc[int] -/

def F_slices_rotateCmpFunc_int_r1 (R : Value → Heap → Prop) (data : Sl) (m : Int) (cap : Addr) (I_ : Int → Int → Heap → Prop) (M_ : Int → Int → Heap → Nat) (i1 : Int) (j1 : Int) (H1 : Heap) : Prop :=
  iteB (i1 != j1) (
  iteB (decide (i1 > j1)) (
  CallsH Try.prog n_slices_swapRangeCmpFunc_int #[.slice data.p data.n data.c, .int .i64 (IntKind.i64.wrap (m - i1)), .int .i64 m, .int .i64 j1, .func (.func 35) #[] #[.pointer (some cap)]] H1 (fun v H2 =>
  v = .tuple #[] ∧ (
  letV (IntKind.i64.wrap (i1 - j1)) (fun i2 : Int =>
  I_ i2 j1 H2 ∧ M_ i2 j1 H2 < M_ i1 j1 H1)))) (
  CallsH Try.prog n_slices_swapRangeCmpFunc_int #[.slice data.p data.n data.c, .int .i64 (IntKind.i64.wrap (m - i1)), .int .i64 (IntKind.i64.wrap ((IntKind.i64.wrap (m + j1)) - i1)), .int .i64 i1, .func (.func 35) #[] #[.pointer (some cap)]] H1 (fun v1 H3 =>
  v1 = .tuple #[] ∧ (
  letV (IntKind.i64.wrap (j1 - i1)) (fun j2 : Int =>
  I_ i1 j2 H3 ∧ M_ i1 j2 H3 < M_ i1 j1 H1))))) (
  CallsH Try.prog n_slices_swapRangeCmpFunc_int #[.slice data.p data.n data.c, .int .i64 (IntKind.i64.wrap (m - i1)), .int .i64 m, .int .i64 i1, .func (.func 35) #[] #[.pointer (some cap)]] H1 (fun v2 H4 =>
  v2 = .tuple #[] ∧ (
  R (.tuple #[]) H4)))

def F_slices_rotateCmpFunc_int (R : Value → Heap → Prop) (data : Sl) (a : Int) (m : Int) (b : Int) (cap : Addr) (H : Heap) : Prop :=
  letV (IntKind.i64.wrap (m - a)) (fun i : Int =>
  letV (IntKind.i64.wrap (b - m)) (fun j : Int =>
  ∃ I_ : Int → Int → Heap → Prop, ∃ M_ : Int → Int → Heap → Nat, I_ i j H ∧ (∀ i1 : Int, ∀ j1 : Int, ∀ H1 : Heap, I_ i1 j1 H1 → F_slices_rotateCmpFunc_int_r1 R data m cap I_ M_ i1 j1 H1)))

theorem F_slices_rotateCmpFunc_int_eq (R : Value → Heap → Prop) (data : Sl) (a : Int) (m : Int) (b : Int) (cap : Addr) (H : Heap) : wpF Try.prog Try.f100 [(10, .int .i64 0), (11, .int .i64 0)] [] [(2, [10, 11], [0, 2, 4])] [17] [.slice data.p data.n data.c, .int .i64 a, .int .i64 m, .int .i64 b, .func (.func 35) #[] #[.pointer (some cap)]] H R = F_slices_rotateCmpFunc_int R data a m b cap H := by kernel_rfl

theorem F_slices_rotateCmpFunc_int_ok {R : Value → Heap → Prop} (data : Sl) (a : Int) (m : Int) (b : Int) (cap : Addr) {H : Heap} (h : F_slices_rotateCmpFunc_int R data a m b cap H) : CallsH Try.prog n_slices_rotateCmpFunc_int #[.slice data.p data.n data.c, .int .i64 a, .int .i64 m, .int .i64 b, .func (.func 35) #[] #[.pointer (some cap)]] H R :=
  wpF_ok Try.func100 (F_slices_rotateCmpFunc_int_eq R data a m b cap H) h

/-! ### 109: math/bits.Len32 -/

def F_math_bits_Len32_k1 (R : Value → Heap → Prop) (x4 : Int) (n2 : Int) (H2 : Heap) : Prop :=
  0 ≤ (IntKind.u8.wrap x4) ∧ (IntKind.u8.wrap x4) < (cstr_0.size : Int) ∧ (
  letV (IntKind.i64.wrap (n2 + (IntKind.i64.wrap (cstr_0[(IntKind.u8.wrap x4).toNat]!.toNat : Int)))) (fun n3 : Int =>
  R (.int .i64 n3) H2))

def F_math_bits_Len32_k2 (R : Value → Heap → Prop) (x2 : Int) (n : Int) (H1 : Heap) : Prop :=
  ∃ J_1 : Int → Int → Heap → Prop, (
  iteB (decide (x2 ≥ (256 : Int))) (
  0 ≤ (8 : Int) ∧ (
  letV (x2.fdiv (2 ^ (min (8 : Int).toNat IntKind.u32.bits))) (fun x3 : Int =>
  letV (IntKind.i64.wrap (n + (8 : Int))) (fun n1 : Int =>
  J_1 x3 n1 H1)))) (
  J_1 x2 n H1)) ∧ (∀ x4 : Int, ∀ n2 : Int, ∀ H2 : Heap, J_1 x4 n2 H2 → F_math_bits_Len32_k1 R x4 n2 H2)

def F_math_bits_Len32 (R : Value → Heap → Prop) (x : Int) (H : Heap) : Prop :=
  ∃ J_ : Int → Int → Heap → Prop, (
  iteB (decide (x ≥ (65536 : Int))) (
  0 ≤ (16 : Int) ∧ (
  letV (x.fdiv (2 ^ (min (16 : Int).toNat IntKind.u32.bits))) (fun x1 : Int =>
  J_ x1 (16 : Int) H))) (
  J_ x (0 : Int) H)) ∧ (∀ x2 : Int, ∀ n : Int, ∀ H1 : Heap, J_ x2 n H1 → F_math_bits_Len32_k2 R x2 n H1)

theorem F_math_bits_Len32_eq (R : Value → Heap → Prop) (x : Int) (H : Heap) : wpF Try.prog Try.f109 [(0, .int .u32 0), (2, .int .i64 0)] [(4, [0, 2], []), (7, [0, 2], [])] [] [17] [.int .u32 x] H R = F_math_bits_Len32 R x H := by kernel_rfl

theorem F_math_bits_Len32_ok {R : Value → Heap → Prop} (x : Int) {H : Heap} (h : F_math_bits_Len32 R x H) : CallsH Try.prog n_math_bits_Len32 #[.int .u32 x] H R :=
  wpF_ok Try.func109 (F_math_bits_Len32_eq R x H) h

/-! ### 110: math/bits.Len64 -/

def F_math_bits_Len64_k1 (R : Value → Heap → Prop) (x6 : Int) (n4 : Int) (H3 : Heap) : Prop :=
  0 ≤ (IntKind.u8.wrap x6) ∧ (IntKind.u8.wrap x6) < (cstr_0.size : Int) ∧ (
  letV (IntKind.i64.wrap (n4 + (IntKind.i64.wrap (cstr_0[(IntKind.u8.wrap x6).toNat]!.toNat : Int)))) (fun n5 : Int =>
  R (.int .i64 n5) H3))

def F_math_bits_Len64_k2 (R : Value → Heap → Prop) (x4 : Int) (n2 : Int) (H2 : Heap) : Prop :=
  ∃ J_2 : Int → Int → Heap → Prop, (
  iteB (decide (x4 ≥ (256 : Int))) (
  0 ≤ (8 : Int) ∧ (
  letV (x4.fdiv (2 ^ (min (8 : Int).toNat IntKind.u64.bits))) (fun x5 : Int =>
  letV (IntKind.i64.wrap (n2 + (8 : Int))) (fun n3 : Int =>
  J_2 x5 n3 H2)))) (
  J_2 x4 n2 H2)) ∧ (∀ x6 : Int, ∀ n4 : Int, ∀ H3 : Heap, J_2 x6 n4 H3 → F_math_bits_Len64_k1 R x6 n4 H3)

def F_math_bits_Len64_k3 (R : Value → Heap → Prop) (x2 : Int) (n : Int) (H1 : Heap) : Prop :=
  ∃ J_1 : Int → Int → Heap → Prop, (
  iteB (decide (x2 ≥ (65536 : Int))) (
  0 ≤ (16 : Int) ∧ (
  letV (x2.fdiv (2 ^ (min (16 : Int).toNat IntKind.u64.bits))) (fun x3 : Int =>
  letV (IntKind.i64.wrap (n + (16 : Int))) (fun n1 : Int =>
  J_1 x3 n1 H1)))) (
  J_1 x2 n H1)) ∧ (∀ x4 : Int, ∀ n2 : Int, ∀ H2 : Heap, J_1 x4 n2 H2 → F_math_bits_Len64_k2 R x4 n2 H2)

def F_math_bits_Len64 (R : Value → Heap → Prop) (x : Int) (H : Heap) : Prop :=
  ∃ J_ : Int → Int → Heap → Prop, (
  iteB (decide (x ≥ (4294967296 : Int))) (
  0 ≤ (32 : Int) ∧ (
  letV (x.fdiv (2 ^ (min (32 : Int).toNat IntKind.u64.bits))) (fun x1 : Int =>
  J_ x1 (32 : Int) H))) (
  J_ x (0 : Int) H)) ∧ (∀ x2 : Int, ∀ n : Int, ∀ H1 : Heap, J_ x2 n H1 → F_math_bits_Len64_k3 R x2 n H1)

theorem F_math_bits_Len64_eq (R : Value → Heap → Prop) (x : Int) (H : Heap) : wpF Try.prog Try.f110 [(0, .int .u64 0), (2, .int .i64 0)] [(4, [0, 2], []), (7, [0, 2], []), (10, [0, 2], [])] [] [17] [.int .u64 x] H R = F_math_bits_Len64 R x H := by kernel_rfl

theorem F_math_bits_Len64_ok {R : Value → Heap → Prop} (x : Int) {H : Heap} (h : F_math_bits_Len64 R x H) : CallsH Try.prog n_math_bits_Len64 #[.int .u64 x] H R :=
  wpF_ok Try.func110 (F_math_bits_Len64_eq R x H) h

end Go.Proofs.Ytigcheamheiopaa
