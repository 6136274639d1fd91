/-
  The shallow readings of this seat's functions, written by a program (gen.py); the kernel holds each against the loaded program.
-/
import Derived.Test.YtnhhncjflnlfaaaGreatProg
import Derived.Test.YtnhhncjflnlfaaaGreatEngS
namespace Go.Proofs.YtnhhncjflnlfaaaGreat
open Go.Eng
set_option linter.unusedVariables false
open IntKind (i64 u64 u8)
abbrev vS (x : Sl) : Value := .slice x.p x.n x.c
abbrev vI (x : Int) : Value := .int .i64 x
abbrev vU (x : Int) : Value := .int .u64 x
abbrev vO : Value := .int .i64 0
abbrev vN : Value := .slice none 0 0
abbrev aZ (H : Heap) : Addr := ⟨H.size, 0, none⟩
abbrev aP (H : Heap) (n : Nat) : Addr := (⟨H.size, 0, none⟩ : Addr).add n
abbrev VP := Value -> Heap -> Prop
abbrev HP := Heap -> Prop
abbrev HN := Heap -> Nat
abbrev lI (h : Heap) (a : Addr) (x : Int) : Prop := rd h a = some (.int .i64 x)
abbrev lU (h : Heap) (a : Addr) (x : Int) : Prop := rd h a = some (.int .u64 x)
abbrev lS (h : Heap) (a : Addr) (x : Sl) : Prop := rd h a = some (.slice x.p x.n x.c)
abbrev lB (h : Heap) (a : Addr) (x : Bool) : Prop := rd h a = some (.bool x)
abbrev xA (i : Int) (s : Sl) (k : Addr -> Prop) : Prop := 0 <= i /\ i < (s.n : Int) /\ unSome s.p k
abbrev gE (x0 : Int) (x1 x2 x3 x4 x5 x6 x7 : Sl) : Value := .agg #[vI x0, vS x1, vS x2, vS x3, vS x4, vS x5, vS x6, vS x7]
abbrev n_3 : FuncId := 3
abbrev n_4 : FuncId := 4
abbrev n_5 : FuncId := 5
abbrev n_6 : FuncId := 6
abbrev n_7 : FuncId := 7
abbrev n_8 : FuncId := 8
abbrev n_9 : FuncId := 9
abbrev n_10 : FuncId := 10
abbrev n_11 : FuncId := 11
abbrev n_12 : FuncId := 12
abbrev n_13 : FuncId := 13
abbrev n_14 : FuncId := 14
abbrev n_15 : FuncId := 15
abbrev n_16 : FuncId := 16
abbrev n_17 : FuncId := 17
abbrev n_18 : FuncId := 18
abbrev n_19 : FuncId := 19
abbrev n_20 : FuncId := 20
abbrev n_21 : FuncId := 21
abbrev n_22 : FuncId := 22
abbrev n_23 : FuncId := 23
abbrev n_24 : FuncId := 24
abbrev n_25 : FuncId := 25
abbrev n_26 : FuncId := 26
abbrev n_27 : FuncId := 27
abbrev n_28 : FuncId := 28
abbrev n_29 : FuncId := 29
abbrev n_30 : FuncId := 30
abbrev n_31 : FuncId := 31
abbrev n_32 : FuncId := 32
abbrev n_33 : FuncId := 33
abbrev n_34 : FuncId := 34
abbrev n_35 : FuncId := 35
abbrev n_36 : FuncId := 36
abbrev n_37 : FuncId := 37
abbrev n_38 : FuncId := 38
abbrev n_39 : FuncId := 39
abbrev n_40 : FuncId := 40
abbrev n_41 : FuncId := 41
abbrev n_42 : FuncId := 42
abbrev n_43 : FuncId := 43
abbrev n_44 : FuncId := 44
abbrev n_45 : FuncId := 45
abbrev n_46 : FuncId := 46
abbrev n_47 : FuncId := 47
abbrev n_48 : FuncId := 48
abbrev n_49 : FuncId := 49
abbrev n_50 : FuncId := 50
abbrev n_51 : FuncId := 51
abbrev n_52 : FuncId := 52
abbrev n_53 : FuncId := 53
abbrev n_54 : FuncId := 54
abbrev n_55 : FuncId := 55
abbrev n_56 : FuncId := 56
abbrev n_57 : FuncId := 57
abbrev n_58 : FuncId := 58
abbrev n_59 : FuncId := 59
abbrev n_60 : FuncId := 60
abbrev n_61 : FuncId := 61
abbrev n_62 : FuncId := 62
abbrev n_63 : FuncId := 63
abbrev n_64 : FuncId := 64
abbrev n_65 : FuncId := 65
abbrev n_66 : FuncId := 66
abbrev n_67 : FuncId := 67
abbrev n_68 : FuncId := 68
abbrev n_69 : FuncId := 69
abbrev n_70 : FuncId := 70
abbrev n_71 : FuncId := 71
abbrev n_72 : FuncId := 72
abbrev n_73 : FuncId := 73
abbrev n_74 : FuncId := 74
abbrev n_75 : FuncId := 75
abbrev n_76 : FuncId := 76
abbrev n_77 : FuncId := 77
abbrev n_78 : FuncId := 78
abbrev n_79 : FuncId := 79
abbrev n_80 : FuncId := 80
abbrev n_81 : FuncId := 81
abbrev n_82 : FuncId := 82
abbrev n_83 : FuncId := 83
abbrev n_84 : FuncId := 84
abbrev n_85 : FuncId := 85
abbrev n_86 : FuncId := 86
abbrev n_87 : FuncId := 87
abbrev n_88 : FuncId := 88
abbrev n_89 : FuncId := 89
abbrev n_90 : FuncId := 90
abbrev n_91 : FuncId := 91
abbrev n_92 : FuncId := 92
abbrev n_93 : FuncId := 93
abbrev n_94 : FuncId := 94
abbrev n_95 : FuncId := 95
abbrev n_96 : FuncId := 96
abbrev n_97 : FuncId := 97
abbrev n_98 : FuncId := 98
abbrev n_99 : FuncId := 99
abbrev n_100 : FuncId := 100
abbrev n_101 : FuncId := 101
abbrev n_102 : FuncId := 102
abbrev n_103 : FuncId := 103
abbrev n_104 : FuncId := 104
abbrev n_105 : FuncId := 105
abbrev n_106 : FuncId := 106
abbrev n_107 : FuncId := 107
abbrev n_108 : FuncId := 108
abbrev n_109 : FuncId := 109
abbrev n_110 : FuncId := 110
abbrev n_111 : FuncId := 111
abbrev n_112 : FuncId := 112
abbrev n_113 : FuncId := 113
abbrev n_114 : FuncId := 114
abbrev n_115 : FuncId := 115
abbrev n_116 : FuncId := 116
abbrev n_117 : FuncId := 117
abbrev n_118 : FuncId := 118
abbrev n_119 : FuncId := 119
abbrev n_120 : FuncId := 120
abbrev n_121 : FuncId := 121
abbrev n_122 : FuncId := 122
abbrev n_123 : FuncId := 123
abbrev n_124 : FuncId := 124
abbrev n_125 : FuncId := 125
abbrev n_126 : FuncId := 126
abbrev n_127 : FuncId := 127
abbrev n_128 : FuncId := 128
abbrev n_129 : FuncId := 129
abbrev n_130 : FuncId := 130
abbrev n_131 : FuncId := 131
abbrev n_132 : FuncId := 132
abbrev n_133 : FuncId := 133
abbrev n_134 : FuncId := 134
abbrev n_135 : FuncId := 135
abbrev n_136 : FuncId := 136
abbrev n_137 : FuncId := 137
abbrev n_138 : FuncId := 138
abbrev n_139 : FuncId := 139
abbrev n_140 : FuncId := 140
abbrev n_141 : FuncId := 141
abbrev n_142 : FuncId := 142
abbrev n_143 : FuncId := 143
abbrev n_144 : FuncId := 144
abbrev n_145 : FuncId := 145
abbrev n_146 : FuncId := 146
abbrev n_147 : FuncId := 147
abbrev n_148 : FuncId := 148
abbrev n_149 : FuncId := 149
abbrev n_150 : FuncId := 150
abbrev n_151 : FuncId := 151
abbrev n_152 : FuncId := 152
abbrev n_153 : FuncId := 153
abbrev n_154 : FuncId := 154
abbrev n_155 : FuncId := 155
abbrev n_156 : FuncId := 156
abbrev n_157 : FuncId := 157
abbrev n_158 : FuncId := 158
abbrev n_159 : FuncId := 159
abbrev n_160 : FuncId := 160
abbrev n_161 : FuncId := 161
abbrev n_162 : FuncId := 162
abbrev n_163 : FuncId := 163
abbrev n_164 : FuncId := 164
abbrev n_165 : FuncId := 165
abbrev n_166 : FuncId := 166
abbrev n_167 : FuncId := 167
abbrev n_168 : FuncId := 168
abbrev n_169 : FuncId := 169
abbrev t_2 : TypeId := 2
abbrev t_3 : TypeId := 3
abbrev t_4 : TypeId := 4
abbrev t_5 : TypeId := 5
abbrev t_6 : TypeId := 6
abbrev t_8 : TypeId := 8
abbrev t_9 : TypeId := 9
abbrev t_10 : TypeId := 10
abbrev t_11 : TypeId := 11
abbrev t_12 : TypeId := 12
abbrev t_14 : TypeId := 14
abbrev t_15 : TypeId := 15
abbrev t_16 : TypeId := 16
abbrev t_17 : TypeId := 17
abbrev t_19 : TypeId := 19
abbrev t_21 : TypeId := 21
abbrev t_22 : TypeId := 22
abbrev t_23 : TypeId := 23
abbrev t_24 : TypeId := 24
abbrev t_25 : TypeId := 25
abbrev t_27 : TypeId := 27
abbrev t_29 : TypeId := 29
abbrev t_30 : TypeId := 30
abbrev t_32 : TypeId := 32
abbrev t_33 : TypeId := 33
abbrev t_37 : TypeId := 37
abbrev t_39 : TypeId := 39
abbrev t_40 : TypeId := 40
abbrev t_47 : TypeId := 47
abbrev t_51 : TypeId := 51
abbrev t_52 : TypeId := 52
abbrev t_53 : TypeId := 53
abbrev t_56 : TypeId := 56
abbrev t_58 : TypeId := 58
abbrev t_70 : TypeId := 70
abbrev t_72 : TypeId := 72
abbrev t_80 : TypeId := 80
abbrev t_91 : TypeId := 91
abbrev t_95 : TypeId := 95
abbrev t_101 : TypeId := 101
abbrev t_103 : TypeId := 103
abbrev t_108 : TypeId := 108
abbrev t_109 : TypeId := 109
abbrev t_112 : TypeId := 112
abbrev t_114 : TypeId := 114
abbrev t_116 : TypeId := 116
abbrev t_122 : TypeId := 122
abbrev t_123 : TypeId := 123
abbrev t_126 : TypeId := 126
abbrev t_128 : TypeId := 128
abbrev t_130 : TypeId := 130
abbrev t_134 : TypeId := 134
abbrev t_141 : TypeId := 141
abbrev t_144 : TypeId := 144
abbrev t_147 : TypeId := 147
abbrev t_148 : TypeId := 148
abbrev t_181 : TypeId := 181
abbrev t_194 : TypeId := 194
abbrev t_198 : TypeId := 198
abbrev t_200 : TypeId := 200
abbrev t_201 : TypeId := 201
abbrev t_207 : TypeId := 207
abbrev t_208 : TypeId := 208
abbrev t_210 : TypeId := 210
abbrev t_211 : TypeId := 211
abbrev t_212 : TypeId := 212
abbrev t_214 : TypeId := 214
abbrev t_215 : TypeId := 215
abbrev t_216 : TypeId := 216
abbrev t_218 : TypeId := 218
abbrev t_219 : TypeId := 219
def cstr_0 : ByteArray := ⟨#[0, 1, 2, 2, 3, 3, 3, 3, 4, 4, 4, 4, 4, 4, 4, 4, 5, 5, 5, 5, 5, 5, 5, 5, 5, 5, 5, 5, 5, 5, 5, 5, 6, 6, 6, 6, 6, 6, 6, 6, 6, 6, 6, 6, 6, 6, 6, 6, 6, 6, 6, 6, 6, 6, 6, 6, 6, 6, 6, 6, 6, 6, 6, 6, 7, 7, 7, 7, 7, 7, 7, 7, 7, 7, 7, 7, 7, 7, 7, 7, 7, 7, 7, 7, 7, 7, 7, 7, 7, 7, 7, 7, 7, 7, 7, 7, 7, 7, 7, 7, 7, 7, 7, 7, 7, 7, 7, 7, 7, 7, 7, 7, 7, 7, 7, 7, 7, 7, 7, 7, 7, 7, 7, 7, 7, 7, 7, 7, 8, 8, 8, 8, 8, 8, 8, 8, 8, 8, 8, 8, 8, 8, 8, 8, 8, 8, 8, 8, 8, 8, 8, 8, 8, 8, 8, 8, 8, 8, 8, 8, 8, 8, 8, 8, 8, 8, 8, 8, 8, 8, 8, 8, 8, 8, 8, 8, 8, 8, 8, 8, 8, 8, 8, 8, 8, 8, 8, 8, 8, 8, 8, 8, 8, 8, 8, 8, 8, 8, 8, 8, 8, 8, 8, 8, 8, 8, 8, 8, 8, 8, 8, 8, 8, 8, 8, 8, 8, 8, 8, 8, 8, 8, 8, 8, 8, 8, 8, 8, 8, 8, 8, 8, 8, 8, 8, 8, 8, 8, 8, 8, 8, 8, 8, 8, 8, 8, 8, 8, 8, 8, 8, 8, 8, 8, 8, 8]⟩
def F_3_k1 (R : VP) (change : Bool) (H3 : Heap) (x8 x17 : Sl) (x19 : Bool) (k : Int) (H7 : Heap) : Prop :=
 ∃ x22, lI H7 (aZ H3) x22 /\ ∃ x23, lS H7 (aP H3 1) x23 /\ ∃ x24, lS H7 (aP H3 2) x24 /\ ∃ x25, lS H7 (aP H3 3) x25 /\ ∃ x26, lS H7 (aP H3 4) x26 /\ ∃ x27, lS H7 (aP H3 5) x27 /\ ∃ x28, lS H7 (aP H3 6) x28 /\ ∃ x29, lS H7 (aP H3 7) x29 /\ (
 CallsH Tryz.prog n_10 #[vS x8, gE x22 x23 x24 x25 x26 x27 x28 x29, vS x17, vI k] H7 (fun v2 H8 =>
 ∃ x30 x31 : Sl, ∃ x32 x33 : Int, ∃ x34 x35 x36 : Int, v2 = .tuple #[vS x30, vS x31, .agg #[vI x32, vI x33, vU x34, vU x35], vI x36] /\ (
 letH (H8.push (.cells #[vO, vO, vU (0 : Int), vU (0 : Int)] t_39 (0, 0))) (fun H9 =>
 okRow H9 (aZ H8) 4 /\ (
 letH (wrs H9 (aZ H8) [vI x32, vI x33, vU x34, vU x35]) (fun H10 =>
 ∃ x37, lI H10 (aZ H3) x37 /\ ∃ x38, lS H10 (aP H3 1) x38 /\ ∃ x39, lS H10 (aP H3 2) x39 /\ ∃ x40, lS H10 (aP H3 3) x40 /\ ∃ x41, lS H10 (aP H3 4) x41 /\ ∃ x42, lS H10 (aP H3 5) x42 /\ ∃ x43, lS H10 (aP H3 6) x43 /\ ∃ x44, lS H10 (aP H3 7) x44 /\ (
 CallsH Tryz.prog n_11 #[vS x8, gE x37 x38 x39 x40 x41 x42 x43 x44, vS x17, vI k] H10 (fun v3 H11 =>
 ∃ x45 x46 : Sl, ∃ x47 x48 : Int, ∃ x49 x50 x51 : Int, v3 = .tuple #[vS x45, vS x46, .agg #[vI x47, vI x48, vU x49, vU x50], vI x51] /\ (
 letH (H11.push (.cells #[vO, vO, vU (0 : Int), vU (0 : Int)] t_39 (0, 0))) (fun H12 =>
 okRow H12 (aZ H11) 4 /\ (
 letH (wrs H12 (aZ H11) [vI x47, vI x48, vU x49, vU x50]) (fun H13 =>
 CallsH Tryz.prog n_12 #[] H13 (fun v4 H14 =>
 ∃ x52 : Bool, v4 = .bool x52 /\ (
 iteB x52 (
 CallsH Tryz.prog n_13 #[vS x30, vS x45] H14 (fun v5 H15 =>
 ∃ x53 : Bool, v5 = .bool x53 /\ (
 iteB x53 (
 CallsH Tryz.prog n_14 #[vS x31, vS x46] H15 (fun v6 H16 =>
 ∃ x54 : Bool, v6 = .bool x54 /\ (
 iteB x54 (
 ∃ x55, lI H16 (aZ H8) x55 /\ ∃ x56, lI H16 (aP H8 1) x56 /\ ∃ x57, lU H16 (aP H8 2) x57 /\ ∃ x58, lU H16 (aP H8 3) x58 /\ (
 ∃ x59, lI H16 (aZ H11) x59 /\ ∃ x60, lI H16 (aP H11 1) x60 /\ ∃ x61, lU H16 (aP H11 2) x61 /\ ∃ x62, lU H16 (aP H11 3) x62 /\ (
 iteB ((x55 == x59) && ((x56 == x60) && ((x57 == x61) && ((x58 == x62) && true)))) (
 iteB (x36 == x51) (
 iteB x19 (
 R (.bool true) H16) (
 iteB change (
 R (.bool true) H16) (
 R (.bool ((x30.n : Int) == (0 : Int))) H16))) (
 R (.bool false) H16)) (
 R (.bool false) H16)))) (
 R (.bool false) H16)))) (
 R (.bool false) H15)))) (
 R (.bool false) H14)))))))))))))))
def F_3 (R : VP) (l c : Sl) (h_0 : Int) (h_1 h_2 h_3 h_4 h_5 h_6 h_7 : Sl) (atv n x_0 x_1 x_2 x_3 x_4 : Int) (change : Bool) (H : Heap) : Prop :=
 letH (H.push (.cells #[vI h_0, vS h_1, vS h_2, vS h_3, vS h_4, vS h_5, vS h_6, vS h_7] t_27 (0, 0))) (fun H1 =>
 letH (H1.push (.cells #[vI x_0, vI x_1, vI x_2, vI x_3, vU x_4] t_32 (0, 0))) (fun H2 =>
 ∃ x, lI H2 (aZ H) x /\ ∃ x1, lS H2 (aP H 1) x1 /\ ∃ x2, lS H2 (aP H 2) x2 /\ ∃ x3, lS H2 (aP H 3) x3 /\ ∃ x4, lS H2 (aP H 4) x4 /\ ∃ x5, lS H2 (aP H 5) x5 /\ ∃ x6, lS H2 (aP H 6) x6 /\ ∃ x7, lS H2 (aP H 7) x7 /\ (
 CallsH Tryz.prog n_8 #[vS l, vS c, gE x x1 x2 x3 x4 x5 x6 x7, vI atv] H2 (fun v H3 =>
 ∃ x8 : Sl, ∃ x9 : Int, ∃ x10 x11 : Sl, ∃ x12 x13 : Sl, ∃ x14 x15 : Sl, ∃ x16 x17 : Sl, ∃ x18 : Int, ∃ x19 : Bool, v = .tuple #[vS x8, gE x9 x10 x11 x12 x13 x14 x15 x16, vS x17, vI x18, .bool x19] /\ (
 letH (H3.push (.cells #[vO, vN, vN, vN, vN, vN, vN, vN] t_27 (0, 0))) (fun H4 =>
 okRow H4 (aZ H3) 8 /\ (
 letH (wrs H4 (aZ H3) [vI x9, vS x10, vS x11, vS x12, vS x13, vS x14, vS x15, vS x16]) (fun H5 =>
 ∃ J_ : Int -> HP, (
 iteB change (
 iteB (decide ((x17.n : Int) > (0 : Int))) (
 CallsP Tryz.prog n_9 #[vI atv, vI (x17.n : Int)] (fun v1 =>
 ∃ x20 : Int, v1 = vI x20 /\ (
 ∃ x21, lU H5 (aP H1 4) x21 /\ (
 (xA x20 x17 (fun a =>
 okRow H5 ((a.add (x20.toNat * 5)).add 4) 1 /\ (
 letH (wrs H5 ((a.add (x20.toNat * 5)).add 4) [vU x21]) (fun H6 =>
 J_ n H6)))))))) (
 J_ n H5)) (
 J_ x18 H5)) /\ (∀ k : Int, ∀ H7 : Heap, J_ k H7 -> F_3_k1 R change H3 x8 x17 x19 k H7)))))))))
theorem F_3_ok {R : VP} (l c : Sl) (h_0 : Int) (h_1 h_2 h_3 h_4 h_5 h_6 h_7 : Sl) (atv n x_0 x_1 x_2 x_3 x_4 : Int) (change : Bool) {H : Heap} (h : F_3 R l c h_0 h_1 h_2 h_3 h_4 h_5 h_6 h_7 atv n x_0 x_1 x_2 x_3 x_4 change H) : CallsH Tryz.prog n_3 #[vS l, vS c, gE h_0 h_1 h_2 h_3 h_4 h_5 h_6 h_7, vI atv, vI n, .agg #[vI x_0, vI x_1, vI x_2, vI x_3, vU x_4], .bool change] H R := wpF_ok Tryz.func3 (show wpF Tryz.prog Tryz.f3 [(18, vI 0)] [(6, [18], [6, 15, 16, 17, 19])] [] [9] _ H R = F_3 R l c h_0 h_1 h_2 h_3 h_4 h_5 h_6 h_7 atv n x_0 x_1 x_2 x_3 x_4 change H by kernel_rfl) h
def F_8 (R : VP) (l c : Sl) (h_0 : Int) (h_1 h_2 h_3 h_4 h_5 h_6 h_7 : Sl) (atv : Int) (H : Heap) : Prop :=
 letH (H.push (.cells #[vI h_0, vS h_1, vS h_2, vS h_3, vS h_4, vS h_5, vS h_6, vS h_7] t_27 (0, 0))) (fun H1 =>
 letH (H1.push (.cells #[vO, vN, vN, vN, vN, vN, vN, vN] t_27 (0, 0))) (fun H2 =>
 ∃ x, lI H2 (aZ H) x /\ ∃ x1, lS H2 (aP H 1) x1 /\ ∃ x2, lS H2 (aP H 2) x2 /\ ∃ x3, lS H2 (aP H 3) x3 /\ ∃ x4, lS H2 (aP H 4) x4 /\ ∃ x5, lS H2 (aP H 5) x5 /\ ∃ x6, lS H2 (aP H 6) x6 /\ ∃ x7, lS H2 (aP H 7) x7 /\ (
 (
 CallsH Tryz.prog n_20 #[vS l, vI (16 : Int)] H2 (fun v H3 =>
 ∃ t : Sl, v = vS t /\ (
 Keeps H2 H3 [((aZ H), 8)] /\ (
 (
 CallsH Tryz.prog n_21 #[gE x x1 x2 x3 x4 x5 x6 x7] H3 (fun v1 H4 =>
 ∃ x8 : Int, ∃ x9 x10 : Sl, ∃ x11 x12 : Sl, ∃ x13 x14 x15 : Sl, v1 = gE x8 x9 x10 x11 x12 x13 x14 x15 /\ (
 letH (H4.push (.cells #[vO, vN, vN, vN, vN, vN, vN, vN] t_27 (0, 0))) (fun H5 =>
 Keeps H4 H5 [((aZ H), 8)] /\ (
 okRow H5 (aZ H4) 8 /\ (
 letH (wrs H5 (aZ H4) [vI x8, vS x9, vS x10, vS x11, vS x12, vS x13, vS x14, vS x15]) (fun H6 =>
 ∃ x16, lI H6 (aZ H4) x16 /\ ∃ x17, lS H6 (aP H4 1) x17 /\ ∃ x18, lS H6 (aP H4 2) x18 /\ ∃ x19, lS H6 (aP H4 3) x19 /\ ∃ x20, lS H6 (aP H4 4) x20 /\ ∃ x21, lS H6 (aP H4 5) x21 /\ ∃ x22, lS H6 (aP H4 6) x22 /\ ∃ x23, lS H6 (aP H4 7) x23 /\ (
 CallsH Tryz.prog n_22 #[vS t, gE x16 x17 x18 x19 x20 x21 x22 x23] H6 (fun v2 H7 =>
 ∃ x24 : Sl, ∃ x25 x26 : Int, ∃ x27 x28 x29 : Int, v2 = .tuple #[vS x24, .agg #[vI x25, vI x26, vU x27, vU x28], vI x29] /\ (
 letH (H7.push (.cells #[vO, vO, vU (0 : Int), vU (0 : Int)] t_39 (0, 0))) (fun H8 =>
 okRow H8 (aZ H7) 4 /\ (
 letH (wrs H8 (aZ H7) [vI x25, vI x26, vU x27, vU x28]) (fun H9 =>
 iteB (x29 != (0 : Int)) (
 ∃ x30, lI H9 (aZ H4) x30 /\ ∃ x31, lS H9 (aP H4 1) x31 /\ ∃ x32, lS H9 (aP H4 2) x32 /\ ∃ x33, lS H9 (aP H4 3) x33 /\ ∃ x34, lS H9 (aP H4 4) x34 /\ ∃ x35, lS H9 (aP H4 5) x35 /\ ∃ x36, lS H9 (aP H4 6) x36 /\ ∃ x37, lS H9 (aP H4 7) x37 /\ (
 okRow H9 (aZ H1) 8 /\ (
 letH (wrs H9 (aZ H1) [vI x30, vS x31, vS x32, vS x33, vS x34, vS x35, vS x36, vS x37]) (fun H10 =>
 ∃ r, lI H10 (aZ H1) r /\ ∃ r1, lS H10 (aP H1 1) r1 /\ ∃ r2, lS H10 (aP H1 2) r2 /\ ∃ r3, lS H10 (aP H1 3) r3 /\ ∃ r4, lS H10 (aP H1 4) r4 /\ ∃ r5, lS H10 (aP H1 5) r5 /\ ∃ r6, lS H10 (aP H1 6) r6 /\ ∃ r7, lS H10 (aP H1 7) r7 /\ (
 R (.tuple #[vN, gE r r1 r2 r3 r4 r5 r6 r7, vN, vO, .bool false]) H10))))) (
 CallsH Tryz.prog n_24 #[vS t, vI atv] H9 (fun v3 H11 =>
 ∃ x38 : Int, v3 = vI x38 /\ (
 CallsH Tryz.prog n_25 #[vS c] H11 (fun v4 H12 =>
 ∃ x39 : Sl, v4 = vS x39 /\ (
 CallsH Tryz.prog n_23 #[vS t, vI x38, vS x39] H12 (fun v5 H13 =>
 ∃ x40 : Sl, ∃ x41 : Int, v5 = .tuple #[vS x40, vI x41] /\ (
 ∃ x42, lI H13 (aZ H4) x42 /\ ∃ x43, lS H13 (aP H4 1) x43 /\ ∃ x44, lS H13 (aP H4 2) x44 /\ ∃ x45, lS H13 (aP H4 3) x45 /\ ∃ x46, lS H13 (aP H4 4) x46 /\ ∃ x47, lS H13 (aP H4 5) x47 /\ ∃ x48, lS H13 (aP H4 6) x48 /\ ∃ x49, lS H13 (aP H4 7) x49 /\ (
 okRow H13 (aZ H1) 8 /\ (
 letH (wrs H13 (aZ H1) [vI x42, vS x43, vS x44, vS x45, vS x46, vS x47, vS x48, vS x49]) (fun H14 =>
 ∃ r8, lI H14 (aZ H1) r8 /\ ∃ r9, lS H14 (aP H1 1) r9 /\ ∃ r10, lS H14 (aP H1 2) r10 /\ ∃ r11, lS H14 (aP H1 3) r11 /\ ∃ r12, lS H14 (aP H1 4) r12 /\ ∃ r13, lS H14 (aP H1 5) r13 /\ ∃ r14, lS H14 (aP H1 6) r14 /\ ∃ r15, lS H14 (aP H1 7) r15 /\ (
 R (.tuple #[vS x40, gE r8 r9 r10 r11 r12 r13 r14 r15, vS x24, vI (t.n : Int), .bool (x41 == (0 : Int))]) H14)))))))))))))))))))))))) /\ (
 letH (H3.push (.cells #[vO, vN, vN, vN, vN, vN, vN, vN] t_27 (0, 0))) (fun H15 =>
 Keeps H3 H15 [((aZ H), 8)] /\ (
 CallsH Tryz.prog n_21 #[gE x x1 x2 x3 x4 x5 x6 x7] H15 (fun v6 H16 =>
 ∃ x50 : Int, ∃ x51 x52 : Sl, ∃ x53 x54 : Sl, ∃ x55 x56 x57 : Sl, v6 = gE x50 x51 x52 x53 x54 x55 x56 x57 /\ (
 okRow H16 (aZ H3) 8 /\ (
 letH (wrs H16 (aZ H3) [vI x50, vS x51, vS x52, vS x53, vS x54, vS x55, vS x56, vS x57]) (fun H17 =>
 ∃ x58, lI H17 (aZ H3) x58 /\ ∃ x59, lS H17 (aP H3 1) x59 /\ ∃ x60, lS H17 (aP H3 2) x60 /\ ∃ x61, lS H17 (aP H3 3) x61 /\ ∃ x62, lS H17 (aP H3 4) x62 /\ ∃ x63, lS H17 (aP H3 5) x63 /\ ∃ x64, lS H17 (aP H3 6) x64 /\ ∃ x65, lS H17 (aP H3 7) x65 /\ (
 CallsH Tryz.prog n_22 #[vS t, gE x58 x59 x60 x61 x62 x63 x64 x65] H17 (fun v7 H18 =>
 ∃ x66 : Sl, ∃ x67 x68 : Int, ∃ x69 x70 x71 : Int, v7 = .tuple #[vS x66, .agg #[vI x67, vI x68, vU x69, vU x70], vI x71] /\ (
 letH (H18.push (.cells #[vO, vO, vU (0 : Int), vU (0 : Int)] t_39 (0, 0))) (fun H19 =>
 okRow H19 (aZ H18) 4 /\ (
 letH (wrs H19 (aZ H18) [vI x67, vI x68, vU x69, vU x70]) (fun H20 =>
 iteB (x71 != (0 : Int)) (
 ∃ x72, lI H20 (aZ H3) x72 /\ ∃ x73, lS H20 (aP H3 1) x73 /\ ∃ x74, lS H20 (aP H3 2) x74 /\ ∃ x75, lS H20 (aP H3 3) x75 /\ ∃ x76, lS H20 (aP H3 4) x76 /\ ∃ x77, lS H20 (aP H3 5) x77 /\ ∃ x78, lS H20 (aP H3 6) x78 /\ ∃ x79, lS H20 (aP H3 7) x79 /\ (
 okRow H20 (aZ H1) 8 /\ (
 letH (wrs H20 (aZ H1) [vI x72, vS x73, vS x74, vS x75, vS x76, vS x77, vS x78, vS x79]) (fun H21 =>
 ∃ r16, lI H21 (aZ H1) r16 /\ ∃ r17, lS H21 (aP H1 1) r17 /\ ∃ r18, lS H21 (aP H1 2) r18 /\ ∃ r19, lS H21 (aP H1 3) r19 /\ ∃ r20, lS H21 (aP H1 4) r20 /\ ∃ r21, lS H21 (aP H1 5) r21 /\ ∃ r22, lS H21 (aP H1 6) r22 /\ ∃ r23, lS H21 (aP H1 7) r23 /\ (
 R (.tuple #[vN, gE r16 r17 r18 r19 r20 r21 r22 r23, vN, vO, .bool false]) H21))))) (
 CallsH Tryz.prog n_24 #[vS t, vI atv] H20 (fun v8 H22 =>
 ∃ x80 : Int, v8 = vI x80 /\ (
 CallsH Tryz.prog n_25 #[vS c] H22 (fun v9 H23 =>
 ∃ x81 : Sl, v9 = vS x81 /\ (
 CallsH Tryz.prog n_23 #[vS t, vI x80, vS x81] H23 (fun v10 H24 =>
 ∃ x82 : Sl, ∃ x83 : Int, v10 = .tuple #[vS x82, vI x83] /\ (
 ∃ x84, lI H24 (aZ H3) x84 /\ ∃ x85, lS H24 (aP H3 1) x85 /\ ∃ x86, lS H24 (aP H3 2) x86 /\ ∃ x87, lS H24 (aP H3 3) x87 /\ ∃ x88, lS H24 (aP H3 4) x88 /\ ∃ x89, lS H24 (aP H3 5) x89 /\ ∃ x90, lS H24 (aP H3 6) x90 /\ ∃ x91, lS H24 (aP H3 7) x91 /\ (
 okRow H24 (aZ H1) 8 /\ (
 letH (wrs H24 (aZ H1) [vI x84, vS x85, vS x86, vS x87, vS x88, vS x89, vS x90, vS x91]) (fun H25 =>
 ∃ r24, lI H25 (aZ H1) r24 /\ ∃ r25, lS H25 (aP H1 1) r25 /\ ∃ r26, lS H25 (aP H1 2) r26 /\ ∃ r27, lS H25 (aP H1 3) r27 /\ ∃ r28, lS H25 (aP H1 4) r28 /\ ∃ r29, lS H25 (aP H1 5) r29 /\ ∃ r30, lS H25 (aP H1 6) r30 /\ ∃ r31, lS H25 (aP H1 7) r31 /\ (
 R (.tuple #[vS x82, gE r24 r25 r26 r27 r28 r29 r30 r31, vS x66, vI (t.n : Int), .bool (x83 == (0 : Int))]) H25)))))))))))))))))))))))))))) /\ (
 letH (H2.push (.cells #[vO, vN, vN, vN, vN, vN, vN, vN] t_27 (0, 0))) (fun H26 =>
 Keeps H2 H26 [((aZ H), 8)] /\ (
 CallsH Tryz.prog n_20 #[vS l, vI (16 : Int)] H26 (fun v11 H27 =>
 ∃ t1 : Sl, v11 = vS t1 /\ (
 Keeps H26 H27 [((aZ H), 8)] /\ (
 CallsH Tryz.prog n_21 #[gE x x1 x2 x3 x4 x5 x6 x7] H27 (fun v12 H28 =>
 ∃ x92 : Int, ∃ x93 x94 : Sl, ∃ x95 x96 : Sl, ∃ x97 x98 x99 : Sl, v12 = gE x92 x93 x94 x95 x96 x97 x98 x99 /\ (
 okRow H28 (aZ H2) 8 /\ (
 letH (wrs H28 (aZ H2) [vI x92, vS x93, vS x94, vS x95, vS x96, vS x97, vS x98, vS x99]) (fun H29 =>
 ∃ x100, lI H29 (aZ H2) x100 /\ ∃ x101, lS H29 (aP H2 1) x101 /\ ∃ x102, lS H29 (aP H2 2) x102 /\ ∃ x103, lS H29 (aP H2 3) x103 /\ ∃ x104, lS H29 (aP H2 4) x104 /\ ∃ x105, lS H29 (aP H2 5) x105 /\ ∃ x106, lS H29 (aP H2 6) x106 /\ ∃ x107, lS H29 (aP H2 7) x107 /\ (
 CallsH Tryz.prog n_22 #[vS t1, gE x100 x101 x102 x103 x104 x105 x106 x107] H29 (fun v13 H30 =>
 ∃ x108 : Sl, ∃ x109 x110 : Int, ∃ x111 x112 x113 : Int, v13 = .tuple #[vS x108, .agg #[vI x109, vI x110, vU x111, vU x112], vI x113] /\ (
 letH (H30.push (.cells #[vO, vO, vU (0 : Int), vU (0 : Int)] t_39 (0, 0))) (fun H31 =>
 okRow H31 (aZ H30) 4 /\ (
 letH (wrs H31 (aZ H30) [vI x109, vI x110, vU x111, vU x112]) (fun H32 =>
 iteB (x113 != (0 : Int)) (
 ∃ x114, lI H32 (aZ H2) x114 /\ ∃ x115, lS H32 (aP H2 1) x115 /\ ∃ x116, lS H32 (aP H2 2) x116 /\ ∃ x117, lS H32 (aP H2 3) x117 /\ ∃ x118, lS H32 (aP H2 4) x118 /\ ∃ x119, lS H32 (aP H2 5) x119 /\ ∃ x120, lS H32 (aP H2 6) x120 /\ ∃ x121, lS H32 (aP H2 7) x121 /\ (
 okRow H32 (aZ H1) 8 /\ (
 letH (wrs H32 (aZ H1) [vI x114, vS x115, vS x116, vS x117, vS x118, vS x119, vS x120, vS x121]) (fun H33 =>
 ∃ r32, lI H33 (aZ H1) r32 /\ ∃ r33, lS H33 (aP H1 1) r33 /\ ∃ r34, lS H33 (aP H1 2) r34 /\ ∃ r35, lS H33 (aP H1 3) r35 /\ ∃ r36, lS H33 (aP H1 4) r36 /\ ∃ r37, lS H33 (aP H1 5) r37 /\ ∃ r38, lS H33 (aP H1 6) r38 /\ ∃ r39, lS H33 (aP H1 7) r39 /\ (
 R (.tuple #[vN, gE r32 r33 r34 r35 r36 r37 r38 r39, vN, vO, .bool false]) H33))))) (
 CallsH Tryz.prog n_24 #[vS t1, vI atv] H32 (fun v14 H34 =>
 ∃ x122 : Int, v14 = vI x122 /\ (
 CallsH Tryz.prog n_25 #[vS c] H34 (fun v15 H35 =>
 ∃ x123 : Sl, v15 = vS x123 /\ (
 CallsH Tryz.prog n_23 #[vS t1, vI x122, vS x123] H35 (fun v16 H36 =>
 ∃ x124 : Sl, ∃ x125 : Int, v16 = .tuple #[vS x124, vI x125] /\ (
 ∃ x126, lI H36 (aZ H2) x126 /\ ∃ x127, lS H36 (aP H2 1) x127 /\ ∃ x128, lS H36 (aP H2 2) x128 /\ ∃ x129, lS H36 (aP H2 3) x129 /\ ∃ x130, lS H36 (aP H2 4) x130 /\ ∃ x131, lS H36 (aP H2 5) x131 /\ ∃ x132, lS H36 (aP H2 6) x132 /\ ∃ x133, lS H36 (aP H2 7) x133 /\ (
 okRow H36 (aZ H1) 8 /\ (
 letH (wrs H36 (aZ H1) [vI x126, vS x127, vS x128, vS x129, vS x130, vS x131, vS x132, vS x133]) (fun H37 =>
 ∃ r40, lI H37 (aZ H1) r40 /\ ∃ r41, lS H37 (aP H1 1) r41 /\ ∃ r42, lS H37 (aP H1 2) r42 /\ ∃ r43, lS H37 (aP H1 3) r43 /\ ∃ r44, lS H37 (aP H1 4) r44 /\ ∃ r45, lS H37 (aP H1 5) r45 /\ ∃ r46, lS H37 (aP H1 6) r46 /\ ∃ r47, lS H37 (aP H1 7) r47 /\ (
 R (.tuple #[vS x124, gE r40 r41 r42 r43 r44 r45 r46 r47, vS x108, vI (t1.n : Int), .bool (x125 == (0 : Int))]) H37))))))))))))))))))))))))))))))
theorem F_8_ok {R : VP} (l c : Sl) (h_0 : Int) (h_1 h_2 h_3 h_4 h_5 h_6 h_7 : Sl) (atv : Int) {H : Heap} (h : F_8 R l c h_0 h_1 h_2 h_3 h_4 h_5 h_6 h_7 atv H) : CallsH Tryz.prog n_8 #[vS l, vS c, gE h_0 h_1 h_2 h_3 h_4 h_5 h_6 h_7, vI atv] H R := wpF_ok Tryz.func8 (show wpF Tryz.prog Tryz.f8 [] [] [] [9] _ H R = F_8 R l c h_0 h_1 h_2 h_3 h_4 h_5 h_6 h_7 atv H by kernel_rfl) h
def F_9 (R : VP) (v n : Int) (H : Heap) : Prop :=
 (u64.wrap n) ≠ 0 /\ (
 letV (i64.wrap ((u64.wrap v).tmod (u64.wrap n))) (fun x =>
 R (vI x) H))
theorem F_9_ok {R : VP} (v n : Int) {H : Heap} (h : F_9 R v n H) : CallsH Tryz.prog n_9 #[vI v, vI n] H R := wpF_ok Tryz.func9 (show wpF Tryz.prog Tryz.f9 [] [] [] [9] _ H R = F_9 R v n H by kernel_rfl) h
def F_10_k1 (R : VP) (l : Sl) (n : Int) (H1 : Heap) (J_ : HP) (x21 : Option Addr) (x25 : Bool) (H12 : Heap) : Prop :=
 iteB x25 (
 CallsH Tryz.prog n_32 #[.pointer x21] H12 (fun v7 H13 =>
 ∃ result : Sl, v7 = vS result /\ (
 CallsH Tryz.prog n_33 #[vS result, vI (l.n : Int), vI n] H13 (fun v8 H14 =>
 ∃ x26 : Sl, v8 = vS x26 /\ (
 okRow H14 (aZ H1) 4 /\ (
 letH (wrs H14 (aZ H1) [vO, vO, vU (0 : Int), vU (0 : Int)]) (fun H15 =>
 ∃ r8, lI H15 (aZ H1) r8 /\ ∃ r9, lI H15 (aP H1 1) r9 /\ ∃ r10, lU H15 (aP H1 2) r10 /\ ∃ r11, lU H15 (aP H1 3) r11 /\ (
 R (.tuple #[vS result, vS x26, .agg #[vI r8, vI r9, vU r10, vU r11], vO]) H15)))))))) (
 J_ H12)
def F_10_k2 (R : VP) (H : Heap) (l a : Sl) (n : Int) (H1 H16 : Heap) : Prop :=
 ∃ x27, lI H16 (aZ H) x27 /\ ∃ x28, lS H16 (aP H 1) x28 /\ ∃ x29, lS H16 (aP H 2) x29 /\ ∃ x30, lS H16 (aP H 3) x30 /\ ∃ x31, lS H16 (aP H 4) x31 /\ ∃ x32, lS H16 (aP H 5) x32 /\ ∃ x33, lS H16 (aP H 6) x33 /\ ∃ x34, lS H16 (aP H 7) x34 /\ (
 CallsH Tryz.prog n_34 #[vS l, gE x27 x28 x29 x30 x31 x32 x33 x34] H16 (fun v9 H17 =>
 ∃ x35 : Sl, ∃ x36 x37 : Int, ∃ x38 x39 x40 : Int, v9 = .tuple #[vS x35, .agg #[vI x36, vI x37, vU x38, vU x39], vI x40] /\ (
 letH (H17.push (.cells #[vO, vO, vU (0 : Int), vU (0 : Int)] t_39 (0, 0))) (fun H18 =>
 okRow H18 (aZ H17) 4 /\ (
 letH (wrs H18 (aZ H17) [vI x36, vI x37, vU x38, vU x39]) (fun H19 =>
 iteB (x40 != (0 : Int)) (
 ∃ x41, lI H19 (aZ H17) x41 /\ ∃ x42, lI H19 (aP H17 1) x42 /\ ∃ x43, lU H19 (aP H17 2) x43 /\ ∃ x44, lU H19 (aP H17 3) x44 /\ (
 okRow H19 (aZ H1) 4 /\ (
 letH (wrs H19 (aZ H1) [vI x41, vI x42, vU x43, vU x44]) (fun H20 =>
 ∃ r12, lI H20 (aZ H1) r12 /\ ∃ r13, lI H20 (aP H1 1) r13 /\ ∃ r14, lU H20 (aP H1 2) r14 /\ ∃ r15, lU H20 (aP H1 3) r15 /\ (
 R (.tuple #[vN, vN, .agg #[vI r12, vI r13, vU r14, vU r15], vI x40]) H20))))) (
 CallsH Tryz.prog n_35 #[vS a, vS x35, vI (l.n : Int), vI n] H19 (fun v10 H21 =>
 ∃ x45 : Sl, v10 = vS x45 /\ (
 okRow H21 (aZ H1) 4 /\ (
 letH (wrs H21 (aZ H1) [vO, vO, vU (0 : Int), vU (0 : Int)]) (fun H22 =>
 ∃ r16, lI H22 (aZ H1) r16 /\ ∃ r17, lI H22 (aP H1 1) r17 /\ ∃ r18, lU H22 (aP H1 2) r18 /\ ∃ r19, lU H22 (aP H1 3) r19 /\ (
 R (.tuple #[vS x35, vS x45, .agg #[vI r16, vI r17, vU r18, vU r19], vO]) H22))))))))))))
def F_10 (R : VP) (l : Sl) (h_0 : Int) (h_1 h_2 h_3 h_4 h_5 h_6 h_7 a : Sl) (n : Int) (H : Heap) : Prop :=
 letH (H.push (.cells #[vI h_0, vS h_1, vS h_2, vS h_3, vS h_4, vS h_5, vS h_6, vS h_7] t_27 (0, 0))) (fun H1 =>
 letH (H1.push (.cells #[vO, vO, vU (0 : Int), vU (0 : Int)] t_39 (0, 0))) (fun H2 =>
 ∃ x, lI H2 (aZ H) x /\ ∃ x1, lS H2 (aP H 1) x1 /\ ∃ x2, lS H2 (aP H 2) x2 /\ ∃ x3, lS H2 (aP H 3) x3 /\ ∃ x4, lS H2 (aP H 4) x4 /\ ∃ x5, lS H2 (aP H 5) x5 /\ ∃ x6, lS H2 (aP H 6) x6 /\ ∃ x7, lS H2 (aP H 7) x7 /\ (
 CallsH Tryz.prog n_26 #[vS l, gE x x1 x2 x3 x4 x5 x6 x7, vI n] H2 (fun v H3 =>
 ∃ x8 : Bool, v = .bool x8 /\ (
 iteB (!x8) (
 okRow H3 (aZ H1) 4 /\ (
 letH (wrs H3 (aZ H1) [vO, vO, vU (0 : Int), vU (0 : Int)]) (fun H4 =>
 ∃ r, lI H4 (aZ H1) r /\ ∃ r1, lI H4 (aP H1 1) r1 /\ ∃ r2, lU H4 (aP H1 2) r2 /\ ∃ r3, lU H4 (aP H1 3) r3 /\ (
 R (.tuple #[vN, vN, .agg #[vI r, vI r1, vU r2, vU r3], vI (1 : Int)]) H4)))) (
 ∃ x9, lS H3 (aP H 3) x9 /\ (
 CallsH Tryz.prog n_27 #[vS l, .bool (decide ((x9.n : Int) > (0 : Int)))] H3 (fun v1 H5 =>
 ∃ x10 : Sl, ∃ x11 : Int, v1 = .tuple #[vS x10, vI x11] /\ (
 iteB (x11 != (0 : Int)) (
 okRow H5 (aZ H1) 4 /\ (
 letH (wrs H5 (aZ H1) [vO, vO, vU (0 : Int), vU (0 : Int)]) (fun H6 =>
 ∃ r4, lI H6 (aZ H1) r4 /\ ∃ r5, lI H6 (aP H1 1) r5 /\ ∃ r6, lU H6 (aP H1 2) r6 /\ ∃ r7, lU H6 (aP H1 3) r7 /\ (
 R (.tuple #[vN, vN, .agg #[vI r4, vI r5, vU r6, vU r7], vI x11]) H6)))) (
 ∃ J_ : HP, (
 0 <= n /\ n <= (l.c : Int) /\ (
 ∃ x12, lI H5 (aZ H) x12 /\ ∃ x13, lS H5 (aP H 1) x13 /\ ∃ x14, lS H5 (aP H 2) x14 /\ ∃ x15, lS H5 (aP H 3) x15 /\ ∃ x16, lS H5 (aP H 4) x16 /\ ∃ x17, lS H5 (aP H 5) x17 /\ ∃ x18, lS H5 (aP H 6) x18 /\ ∃ x19, lS H5 (aP H 7) x19 /\ (
 CallsH Tryz.prog n_15 #[.slice (slP l.p l.c 0 11) (n.toNat - 0) (l.c - 0), gE x12 x13 x14 x15 x16 x17 x18 x19, vS a] H5 (fun v2 H7 =>
 ∃ x20 : Bool, v2 = .bool x20 /\ (
 iteB x20 (
 CallsH Tryz.prog n_28 #[vS l, vS x10, vI n] H7 (fun v3 H8 =>
 ∃ x21 : Option Addr, v3 = .pointer x21 /\ (
 ∃ J_1 : Bool -> HP, (
 CallsH Tryz.prog n_29 #[.pointer x21, vS a] H8 (fun v4 H9 =>
 ∃ x22 : Bool, v4 = .bool x22 /\ (
 iteB x22 (
 CallsH Tryz.prog n_30 #[.pointer x21] H9 (fun v5 H10 =>
 ∃ x23 : Bool, v5 = .bool x23 /\ (
 iteB x23 (
 CallsH Tryz.prog n_31 #[.pointer x21] H10 (fun v6 H11 =>
 ∃ x24 : Bool, v6 = .bool x24 /\ (
 J_1 x24 H11))) (
 J_1 false H10)))) (
 J_1 false H9)))) /\ (∀ x25 : Bool, ∀ H12 : Heap, J_1 x25 H12 -> F_10_k1 R l n H1 J_ x21 x25 H12)))) (
 J_ H7)))))) /\ (∀ H16 : Heap, J_ H16 -> F_10_k2 R H l a n H1 H16)))))))))))
theorem F_10_ok {R : VP} (l : Sl) (h_0 : Int) (h_1 h_2 h_3 h_4 h_5 h_6 h_7 a : Sl) (n : Int) {H : Heap} (h : F_10 R l h_0 h_1 h_2 h_3 h_4 h_5 h_6 h_7 a n H) : CallsH Tryz.prog n_10 #[vS l, gE h_0 h_1 h_2 h_3 h_4 h_5 h_6 h_7, vS a, vI n] H R := wpF_ok Tryz.func10 (show wpF Tryz.prog Tryz.f10 [(57, .bool false)] [(11, [], [0, 2, 3, 5, 10]), (9, [57], [0, 2, 3, 5, 10, 14])] [] [9] _ H R = F_10 R l h_0 h_1 h_2 h_3 h_4 h_5 h_6 h_7 a n H by kernel_rfl) h
def F_11_k1 (R : VP) (H : Heap) (l a : Sl) (n : Int) (H1 H11 : Heap) : Prop :=
 ∃ x24, lI H11 (aZ H) x24 /\ ∃ x25, lS H11 (aP H 1) x25 /\ ∃ x26, lS H11 (aP H 2) x26 /\ ∃ x27, lS H11 (aP H 3) x27 /\ ∃ x28, lS H11 (aP H 4) x28 /\ ∃ x29, lS H11 (aP H 5) x29 /\ ∃ x30, lS H11 (aP H 6) x30 /\ ∃ x31, lS H11 (aP H 7) x31 /\ (
 CallsH Tryz.prog n_22 #[vS l, gE x24 x25 x26 x27 x28 x29 x30 x31] H11 (fun v5 H12 =>
 ∃ x32 : Sl, ∃ x33 x34 : Int, ∃ x35 x36 x37 : Int, v5 = .tuple #[vS x32, .agg #[vI x33, vI x34, vU x35, vU x36], vI x37] /\ (
 letH (H12.push (.cells #[vO, vO, vU (0 : Int), vU (0 : Int)] t_39 (0, 0))) (fun H13 =>
 okRow H13 (aZ H12) 4 /\ (
 letH (wrs H13 (aZ H12) [vI x33, vI x34, vU x35, vU x36]) (fun H14 =>
 iteB (x37 != (0 : Int)) (
 ∃ x38, lI H14 (aZ H12) x38 /\ ∃ x39, lI H14 (aP H12 1) x39 /\ ∃ x40, lU H14 (aP H12 2) x40 /\ ∃ x41, lU H14 (aP H12 3) x41 /\ (
 okRow H14 (aZ H1) 4 /\ (
 letH (wrs H14 (aZ H1) [vI x38, vI x39, vU x40, vU x41]) (fun H15 =>
 ∃ r12, lI H15 (aZ H1) r12 /\ ∃ r13, lI H15 (aP H1 1) r13 /\ ∃ r14, lU H15 (aP H1 2) r14 /\ ∃ r15, lU H15 (aP H1 3) r15 /\ (
 R (.tuple #[vN, vN, .agg #[vI r12, vI r13, vU r14, vU r15], vI x37]) H15))))) (
 CallsH Tryz.prog n_39 #[vS a, vS x32, vI n, vI (l.n : Int)] H14 (fun v6 H16 =>
 ∃ x42 : Sl, v6 = vS x42 /\ (
 okRow H16 (aZ H1) 4 /\ (
 letH (wrs H16 (aZ H1) [vO, vO, vU (0 : Int), vU (0 : Int)]) (fun H17 =>
 ∃ r16, lI H17 (aZ H1) r16 /\ ∃ r17, lI H17 (aP H1 1) r17 /\ ∃ r18, lU H17 (aP H1 2) r18 /\ ∃ r19, lU H17 (aP H1 3) r19 /\ (
 R (.tuple #[vS x32, vS x42, .agg #[vI r16, vI r17, vU r18, vU r19], vO]) H17))))))))))))
def F_11 (R : VP) (l : Sl) (h_0 : Int) (h_1 h_2 h_3 h_4 h_5 h_6 h_7 a : Sl) (n : Int) (H : Heap) : Prop :=
 letH (H.push (.cells #[vI h_0, vS h_1, vS h_2, vS h_3, vS h_4, vS h_5, vS h_6, vS h_7] t_27 (0, 0))) (fun H1 =>
 letH (H1.push (.cells #[vO, vO, vU (0 : Int), vU (0 : Int)] t_39 (0, 0))) (fun H2 =>
 ∃ x, lI H2 (aZ H) x /\ ∃ x1, lS H2 (aP H 1) x1 /\ ∃ x2, lS H2 (aP H 2) x2 /\ ∃ x3, lS H2 (aP H 3) x3 /\ ∃ x4, lS H2 (aP H 4) x4 /\ ∃ x5, lS H2 (aP H 5) x5 /\ ∃ x6, lS H2 (aP H 6) x6 /\ ∃ x7, lS H2 (aP H 7) x7 /\ (
 CallsH Tryz.prog n_36 #[vS l, gE x x1 x2 x3 x4 x5 x6 x7, vI n] H2 (fun v H3 =>
 ∃ x8 : Bool, v = .bool x8 /\ (
 iteB (!x8) (
 okRow H3 (aZ H1) 4 /\ (
 letH (wrs H3 (aZ H1) [vO, vO, vU (0 : Int), vU (0 : Int)]) (fun H4 =>
 ∃ r, lI H4 (aZ H1) r /\ ∃ r1, lI H4 (aP H1 1) r1 /\ ∃ r2, lU H4 (aP H1 2) r2 /\ ∃ r3, lU H4 (aP H1 3) r3 /\ (
 R (.tuple #[vN, vN, .agg #[vI r, vI r1, vU r2, vU r3], vI (1 : Int)]) H4)))) (
 ∃ x9, lS H3 (aP H 3) x9 /\ (
 CallsH Tryz.prog n_16 #[vS l, .bool (decide ((x9.n : Int) > (0 : Int)))] H3 (fun v1 H5 =>
 ∃ x10 : Sl, ∃ x11 : Int, v1 = .tuple #[vS x10, vI x11] /\ (
 iteB (x11 != (0 : Int)) (
 okRow H5 (aZ H1) 4 /\ (
 letH (wrs H5 (aZ H1) [vO, vO, vU (0 : Int), vU (0 : Int)]) (fun H6 =>
 ∃ r4, lI H6 (aZ H1) r4 /\ ∃ r5, lI H6 (aP H1 1) r5 /\ ∃ r6, lU H6 (aP H1 2) r6 /\ ∃ r7, lU H6 (aP H1 3) r7 /\ (
 R (.tuple #[vN, vN, .agg #[vI r4, vI r5, vU r6, vU r7], vI x11]) H6)))) (
 ∃ J_ : HP, (
 0 <= n /\ n <= (l.c : Int) /\ (
 ∃ x12, lI H5 (aZ H) x12 /\ ∃ x13, lS H5 (aP H 1) x13 /\ ∃ x14, lS H5 (aP H 2) x14 /\ ∃ x15, lS H5 (aP H 3) x15 /\ ∃ x16, lS H5 (aP H 4) x16 /\ ∃ x17, lS H5 (aP H 5) x17 /\ ∃ x18, lS H5 (aP H 6) x18 /\ ∃ x19, lS H5 (aP H 7) x19 /\ (
 CallsH Tryz.prog n_37 #[.slice (slP l.p l.c 0 11) (n.toNat - 0) (l.c - 0), gE x12 x13 x14 x15 x16 x17 x18 x19, vS a] H5 (fun v2 H7 =>
 ∃ x20 : Bool, v2 = .bool x20 /\ (
 iteB x20 (
 CallsH Tryz.prog n_38 #[vS l, vS a, vS x10, vI n] H7 (fun v3 H8 =>
 ∃ x21 : Sl, ∃ x22 : Bool, v3 = .tuple #[vS x21, .bool x22] /\ (
 iteB x22 (
 CallsH Tryz.prog n_39 #[vS a, vS x21, vI n, vI (l.n : Int)] H8 (fun v4 H9 =>
 ∃ x23 : Sl, v4 = vS x23 /\ (
 okRow H9 (aZ H1) 4 /\ (
 letH (wrs H9 (aZ H1) [vO, vO, vU (0 : Int), vU (0 : Int)]) (fun H10 =>
 ∃ r8, lI H10 (aZ H1) r8 /\ ∃ r9, lI H10 (aP H1 1) r9 /\ ∃ r10, lU H10 (aP H1 2) r10 /\ ∃ r11, lU H10 (aP H1 3) r11 /\ (
 R (.tuple #[vS x21, vS x23, .agg #[vI r8, vI r9, vU r10, vU r11], vO]) H10)))))) (
 J_ H8)))) (
 J_ H7)))))) /\ (∀ H11 : Heap, J_ H11 -> F_11_k1 R H l a n H1 H11)))))))))))
theorem F_11_ok {R : VP} (l : Sl) (h_0 : Int) (h_1 h_2 h_3 h_4 h_5 h_6 h_7 a : Sl) (n : Int) {H : Heap} (h : F_11 R l h_0 h_1 h_2 h_3 h_4 h_5 h_6 h_7 a n H) : CallsH Tryz.prog n_11 #[vS l, gE h_0 h_1 h_2 h_3 h_4 h_5 h_6 h_7, vS a, vI n] H R := wpF_ok Tryz.func11 (show wpF Tryz.prog Tryz.f11 [] [(10, [], [0, 2, 3, 5, 10])] [] [9] _ H R = F_11 R l h_0 h_1 h_2 h_3 h_4 h_5 h_6 h_7 a n H by kernel_rfl) h
def F_12 (R : VP)  (H : Heap) : Prop :=
 CallsH Tryz.prog n_40 #[.bool true, vU (5 : Int)] H (fun v H1 =>
 ∃ x : Option Addr, ∃ x1 : Int, v = .tuple #[.pointer x, vI x1] /\ (
 iteB (x1 != (0 : Int)) (
 R (.bool false) H1) (
 iteB x.isNone (
 R (.bool false) H1) (
 CallsH Tryz.prog n_41 #[.pointer x, vI (3 : Int), vU (10 : Int)] H1 (fun v1 H2 =>
 ∃ x2 : Sl, ∃ x3 : Int, v1 = .tuple #[vS x2, vI x3] /\ (
 CallsH Tryz.prog n_42 #[.pointer x, vU (15 : Int)] H2 (fun v2 H3 =>
 ∃ b : Sl, v2 = vS b /\ (
 CallsH Tryz.prog n_41 #[.pointer x, vI (2 : Int), vU (20 : Int)] H3 (fun v3 H4 =>
 ∃ x4 : Sl, ∃ x5 : Int, v3 = .tuple #[vS x4, vI x5] /\ (
 iteB (x3 == (0 : Int)) (
 iteB (x5 == (0 : Int)) (
 letH (H4.push (.cells #[vI (1 : Int)] t_3 (0, 0))) (fun H5 =>
 CallsH Tryz.prog n_43 #[vS x2, .slice (some (aZ H4)) 1 1] H5 (fun v4 H6 =>
 ∃ x6 : Bool, v4 = .bool x6 /\ (
 iteB x6 (
 letH (H6.push (.cells #[vI (3 : Int)] t_3 (0, 0))) (fun H7 =>
 CallsH Tryz.prog n_43 #[vS b, .slice (some (aZ H6)) 1 1] H7 (fun v5 H8 =>
 ∃ x7 : Bool, v5 = .bool x7 /\ (
 iteB x7 (
 letH (H8.push (.cells #[vI (5 : Int), vI (2 : Int)] t_3 (0, 0))) (fun H9 =>
 CallsH Tryz.prog n_43 #[vS x4, .slice (some (aZ H8)) 2 2] H9 (fun v6 H10 =>
 ∃ x8 : Bool, v6 = .bool x8 /\ (
 iteB x8 (
 CallsH Tryz.prog n_44 #[.pointer x] H10 (fun v7 H11 =>
 ∃ x9 : Int, v7 = vI x9 /\ (
 R (.bool (x9 == (1 : Int))) H11))) (
 R (.bool false) H10))))) (
 R (.bool false) H8))))) (
 R (.bool false) H6))))) (
 R (.bool false) H4)) (
 R (.bool false) H4)))))))))))
theorem F_12_ok {R : VP}  {H : Heap} (h : F_12 R  H) : CallsH Tryz.prog n_12 #[] H R := wpF_ok Tryz.func12 (show wpF Tryz.prog Tryz.f12 [] [] [] [9] _ H R = F_12 R  H by kernel_rfl) h
def F_13_r1 (R : VP) (a b : Sl) (I_ : Int -> HP) (M_ : Int -> HN) (i : Int) (H1 : Heap) : Prop :=
 iteB (decide (i < (a.n : Int))) (
 (xA i a (fun a1 =>
 ∃ x, lI H1 (a1.add (i.toNat * 5)) x /\ ∃ x1, lI H1 ((a1.add (i.toNat * 5)).add 1) x1 /\ ∃ x2, lI H1 ((a1.add (i.toNat * 5)).add 2) x2 /\ ∃ x3, lI H1 ((a1.add (i.toNat * 5)).add 3) x3 /\ ∃ x4, lU H1 ((a1.add (i.toNat * 5)).add 4) x4 /\ (
 (xA i b (fun a2 =>
 ∃ x5, lI H1 (a2.add (i.toNat * 5)) x5 /\ ∃ x6, lI H1 ((a2.add (i.toNat * 5)).add 1) x6 /\ ∃ x7, lI H1 ((a2.add (i.toNat * 5)).add 2) x7 /\ ∃ x8, lI H1 ((a2.add (i.toNat * 5)).add 3) x8 /\ ∃ x9, lU H1 ((a2.add (i.toNat * 5)).add 4) x9 /\ (
 iteB (!(((x == x5) && ((x1 == x6) && ((x2 == x7) && ((x3 == x8) && true)))) && ((x4 == x9) && true))) (
 R (.bool false) H1) (
 letV (i64.wrap (i + (1 : Int))) (fun i1 =>
 I_ i1 H1 /\ M_ i1 H1 < M_ i H1))))))))) (
 R (.bool true) H1)
def F_13 (R : VP) (a b : Sl) (H : Heap) : Prop :=
 iteB ((a.n : Int) != (b.n : Int)) (
 R (.bool false) H) (
 ∃ I_ : Int -> HP, ∃ M_ : Int -> HN, I_ (0 : Int) H /\ (∀ i : Int, ∀ H1 : Heap, I_ i H1 -> F_13_r1 R a b I_ M_ i H1))
theorem F_13_ok {R : VP} (a b : Sl) {H : Heap} (h : F_13 R a b H) : CallsH Tryz.prog n_13 #[vS a, vS b] H R := wpF_ok Tryz.func13 (show wpF Tryz.prog Tryz.f13 [(5, vI 0)] [] [(4, [5], [0, 1])] [9] _ H R = F_13 R a b H by kernel_rfl) h
def F_14_r1 (R : VP) (a b : Sl) (I_ : Int -> HP) (M_ : Int -> HN) (i : Int) (H1 : Heap) : Prop :=
 iteB (decide (i < (a.n : Int))) (
 (xA i a (fun a1 =>
 ∃ x, lI H1 (a1.add (i.toNat * 4)) x /\ ∃ x1, lI H1 ((a1.add (i.toNat * 4)).add 1) x1 /\ ∃ x2, lI H1 ((a1.add (i.toNat * 4)).add 2) x2 /\ ∃ x3, lU H1 ((a1.add (i.toNat * 4)).add 3) x3 /\ (
 (xA i b (fun a2 =>
 ∃ x4, lI H1 (a2.add (i.toNat * 4)) x4 /\ ∃ x5, lI H1 ((a2.add (i.toNat * 4)).add 1) x5 /\ ∃ x6, lI H1 ((a2.add (i.toNat * 4)).add 2) x6 /\ ∃ x7, lU H1 ((a2.add (i.toNat * 4)).add 3) x7 /\ (
 iteB (!((x == x4) && ((x1 == x5) && ((x2 == x6) && ((x3 == x7) && true))))) (
 R (.bool false) H1) (
 letV (i64.wrap (i + (1 : Int))) (fun i1 =>
 I_ i1 H1 /\ M_ i1 H1 < M_ i H1))))))))) (
 R (.bool true) H1)
def F_14 (R : VP) (a b : Sl) (H : Heap) : Prop :=
 iteB ((a.n : Int) != (b.n : Int)) (
 R (.bool false) H) (
 ∃ I_ : Int -> HP, ∃ M_ : Int -> HN, I_ (0 : Int) H /\ (∀ i : Int, ∀ H1 : Heap, I_ i H1 -> F_14_r1 R a b I_ M_ i H1))
theorem F_14_ok {R : VP} (a b : Sl) {H : Heap} (h : F_14 R a b H) : CallsH Tryz.prog n_14 #[vS a, vS b] H R := wpF_ok Tryz.func14 (show wpF Tryz.prog Tryz.f14 [(5, vI 0)] [] [(4, [5], [0, 1])] [9] _ H R = F_14 R a b H by kernel_rfl) h
def F_15_r1 (R : VP) (l a : Sl) (I_1 : Int -> HP) (M_1 : Int -> HN) (x22 : Int) (H9 : Heap) (parent classv : Int) (I_2 : Int -> HP) (M_2 : Int -> HN) (x36 : Int) (H16 : Heap) : Prop :=
 iteB (decide (x36 < (((x22.toNat - 0) : Nat) : Int))) (
 0 <= x36 /\ x36 < (((x22.toNat - 0) : Nat) : Int) /\ (unSome (slP a.p a.c 0 5) (fun a3 =>
 ∃ x37, lI H16 (a3.add (x36.toNat * 5)) x37 /\ ∃ x38, lI H16 ((a3.add (x36.toNat * 5)).add 1) x38 /\ ∃ x39, lI H16 ((a3.add (x36.toNat * 5)).add 2) x39 /\ ∃ x40, lI H16 ((a3.add (x36.toNat * 5)).add 3) x40 /\ ∃ x41, lU H16 ((a3.add (x36.toNat * 5)).add 4) x41 /\ (
 letH (H16.push (.cells #[vO, vO, vO, vO, vU (0 : Int)] t_32 (0, 0))) (fun H17 =>
 okRow H17 (aZ H16) 5 /\ (
 letH (wrs H17 (aZ H16) [vI x37, vI x38, vI x39, vI x40, vU x41]) (fun H18 =>
 ∃ x42, lI H18 (aZ H16) x42 /\ (
 (xA x42 l (fun a4 =>
 ∃ x43, lI H18 (a4.add (x42.toNat * 11)) x43 /\ (
 iteB (x43 == parent) (
 ∃ x44, lI H18 (aP H16 2) x44 /\ (
 iteB (x44 == classv) (
 ∃ x45, lI H18 (aZ H9) x45 /\ ∃ x46, lI H18 (aP H9 1) x46 /\ ∃ x47, lI H18 (aP H9 2) x47 /\ ∃ x48, lI H18 (aP H9 3) x48 /\ ∃ x49, lU H18 (aP H9 4) x49 /\ (
 ∃ x50, lI H18 (aZ H16) x50 /\ ∃ x51, lI H18 (aP H16 1) x51 /\ ∃ x52, lI H18 (aP H16 2) x52 /\ ∃ x53, lI H18 (aP H16 3) x53 /\ ∃ x54, lU H18 (aP H16 4) x54 /\ (
 CallsH Tryz.prog n_51 #[.agg #[vI x45, vI x46, vI x47, vI x48, vU x49], .agg #[vI x50, vI x51, vI x52, vI x53, vU x54]] H18 (fun v6 H19 =>
 ∃ x55 : Bool, v6 = .bool x55 /\ (
 iteB x55 (
 R (.bool false) H19) (
 I_2 (i64.wrap (x36 + (1 : Int))) H19 /\ M_2 (i64.wrap (x36 + (1 : Int))) H19 < M_2 x36 H16)))))) (
 I_2 (i64.wrap (x36 + (1 : Int))) H18 /\ M_2 (i64.wrap (x36 + (1 : Int))) H18 < M_2 x36 H16))) (
 I_2 (i64.wrap (x36 + (1 : Int))) H18 /\ M_2 (i64.wrap (x36 + (1 : Int))) H18 < M_2 x36 H16)))))))))))) (
 I_1 (i64.wrap (x22 + (1 : Int))) H16 /\ M_1 (i64.wrap (x22 + (1 : Int))) H16 < M_1 x22 H9)
def F_15_k2 (R : VP) (l a : Sl) (I_1 : Int -> HP) (M_1 : Int -> HN) (x22 : Int) (H9 : Heap) (size parent classv : Int) (space1 : Sl) (H14 : Heap) : Prop :=
 ∃ x34, lU H14 (aP H9 4) x34 /\ (
 CallsH Tryz.prog n_50 #[vS space1, vU x34, vU size] H14 (fun v5 H15 =>
 ∃ x35 : Bool, v5 = .bool x35 /\ (
 iteB (!x35) (
 R (.bool false) H15) (
 0 <= x22 /\ x22 <= (a.c : Int) /\ (
 ∃ I_2 : Int -> HP, ∃ M_2 : Int -> HN, I_2 (0 : Int) H15 /\ (∀ x36 : Int, ∀ H16 : Heap, I_2 x36 H16 -> F_15_r1 R l a I_1 M_1 x22 H9 parent classv I_2 M_2 x36 H16))))))
def F_15_r3 (R : VP) (l a : Sl) (H4 : Heap) (I_1 : Int -> HP) (M_1 : Int -> HN) (x22 : Int) (H9 : Heap) : Prop :=
 iteB (decide (x22 < (a.n : Int))) (
 (xA x22 a (fun a1 =>
 ∃ x23, lI H9 (a1.add (x22.toNat * 5)) x23 /\ ∃ x24, lI H9 ((a1.add (x22.toNat * 5)).add 1) x24 /\ ∃ x25, lI H9 ((a1.add (x22.toNat * 5)).add 2) x25 /\ ∃ x26, lI H9 ((a1.add (x22.toNat * 5)).add 3) x26 /\ ∃ x27, lU H9 ((a1.add (x22.toNat * 5)).add 4) x27 /\ (
 letH (H9.push (.cells #[vO, vO, vO, vO, vU (0 : Int)] t_32 (0, 0))) (fun H10 =>
 okRow H10 (aZ H9) 5 /\ (
 letH (wrs H10 (aZ H9) [vI x23, vI x24, vI x25, vI x26, vU x27]) (fun H11 =>
 ∃ x28, lI H11 (aP H9 3) x28 /\ (
 0 <= x28 /\ (
 letV (u64.wrap ((1 : Int) * 2 ^ (min x28.toNat IntKind.u64.bits))) (fun size =>
 ∃ x29, lU H11 (aP H9 4) x29 /\ (
 size ≠ 0 /\ (
 iteB ((x29.tmod size) != (0 : Int)) (
 R (.bool false) H11) (
 ∃ x30, lI H11 (aZ H9) x30 /\ (
 (xA x30 l (fun a2 =>
 ∃ parent, lI H11 (a2.add (x30.toNat * 11)) parent /\ (
 ∃ classv, lI H11 (aP H9 2) classv /\ (
 0 <= classv /\ classv < ((3 : Nat) : Int) /\ (∃ space, lS H11 ((aZ H4).add (classv.toNat * 1)) space /\ (
 ∃ J_ : Sl -> HP, (
 iteB (decide (parent >= (0 : Int))) (
 CallsH Tryz.prog n_49 #[vS a, vI parent, vI classv] H11 (fun v4 H12 =>
 ∃ x31 x32 : Int, ∃ x33 : Bool, v4 = .tuple #[vU x31, vU x32, .bool x33] /\ (
 iteB (!x33) (
 R (.bool false) H12) (
 letH (H12.push (.cells #[vU x31, vU x32] t_95 (0, 0))) (fun H13 =>
 J_ (Sl.mk (some (aZ H12)) 1 1) H13))))) (
 J_ space H11)) /\ (∀ space1 : Sl, ∀ H14 : Heap, J_ space1 H14 -> F_15_k2 R l a I_1 M_1 x22 H9 size parent classv space1 H14))))))))))))))))))))) (
 R (.bool true) H9)
def F_15_r4 (R : VP) (H : Heap) (l a : Sl) (H4 : Heap) (I_ : Int -> HP) (M_ : Int -> HN) (x12 : Int) (H6 : Heap) : Prop :=
 iteB (decide (x12 < (3 : Int))) (
 ∃ x13, lI H6 (aZ H) x13 /\ ∃ x14, lS H6 (aP H 1) x14 /\ ∃ x15, lS H6 (aP H 2) x15 /\ ∃ x16, lS H6 (aP H 3) x16 /\ ∃ x17, lS H6 (aP H 4) x17 /\ ∃ x18, lS H6 (aP H 5) x18 /\ ∃ x19, lS H6 (aP H 6) x19 /\ ∃ x20, lS H6 (aP H 7) x20 /\ (
 CallsH Tryz.prog n_48 #[gE x13 x14 x15 x16 x17 x18 x19 x20, vI x12] H6 (fun v3 H7 =>
 ∃ x21 : Sl, v3 = vS x21 /\ (
 0 <= x12 /\ x12 < ((3 : Nat) : Int) /\ (okRow H7 ((aZ H4).add (x12.toNat * 1)) 1 /\ (
 letH (wrs H7 ((aZ H4).add (x12.toNat * 1)) [vS x21]) (fun H8 =>
 I_ (i64.wrap (x12 + (1 : Int))) H8 /\ M_ (i64.wrap (x12 + (1 : Int))) H8 < M_ x12 H6))))))) (
 ∃ I_1 : Int -> HP, ∃ M_1 : Int -> HN, I_1 (0 : Int) H6 /\ (∀ x22 : Int, ∀ H9 : Heap, I_1 x22 H9 -> F_15_r3 R l a H4 I_1 M_1 x22 H9))
def F_15 (R : VP) (l : Sl) (h_0 : Int) (h_1 h_2 h_3 h_4 h_5 h_6 h_7 a : Sl) (H : Heap) : Prop :=
 letH (H.push (.cells #[vI h_0, vS h_1, vS h_2, vS h_3, vS h_4, vS h_5, vS h_6, vS h_7] t_27 (0, 0))) (fun H1 =>
 CallsH Tryz.prog n_45 #[vS l] H1 (fun v H2 =>
 ∃ x : Bool, v = .bool x /\ (
 iteB (!x) (
 R (.bool false) H2) (
 ∃ x1, lI H2 (aZ H) x1 /\ ∃ x2, lS H2 (aP H 1) x2 /\ ∃ x3, lS H2 (aP H 2) x3 /\ ∃ x4, lS H2 (aP H 3) x4 /\ ∃ x5, lS H2 (aP H 4) x5 /\ ∃ x6, lS H2 (aP H 5) x6 /\ ∃ x7, lS H2 (aP H 6) x7 /\ ∃ x8, lS H2 (aP H 7) x8 /\ (
 CallsH Tryz.prog n_46 #[gE x1 x2 x3 x4 x5 x6 x7 x8] H2 (fun v1 H3 =>
 ∃ x9 : Bool, v1 = .bool x9 /\ (
 iteB (!x9) (
 R (.bool false) H3) (
 ∃ x10, lS H3 (aP H 3) x10 /\ (
 CallsH Tryz.prog n_47 #[vS l, .bool (decide ((x10.n : Int) > (0 : Int))), vS a] H3 (fun v2 H4 =>
 ∃ x11 : Bool, v2 = .bool x11 /\ (
 iteB (!x11) (
 R (.bool false) H4) (
 letH (H4.push (.cells #[vN, vN, vN] t_91 (0, 0))) (fun H5 =>
 ∃ I_ : Int -> HP, ∃ M_ : Int -> HN, I_ (0 : Int) H5 /\ (∀ x12 : Int, ∀ H6 : Heap, I_ x12 H6 -> F_15_r4 R H l a H4 I_ M_ x12 H6))))))))))))))
theorem F_15_ok {R : VP} (l : Sl) (h_0 : Int) (h_1 h_2 h_3 h_4 h_5 h_6 h_7 a : Sl) {H : Heap} (h : F_15 R l h_0 h_1 h_2 h_3 h_4 h_5 h_6 h_7 a H) : CallsH Tryz.prog n_15 #[vS l, gE h_0 h_1 h_2 h_3 h_4 h_5 h_6 h_7, vS a] H R := wpF_ok Tryz.func15 (show wpF Tryz.prog Tryz.f15 [(14, vN), (38, vI 0), (49, vI 0), (102, vI 0)] [(22, [14], [0, 2, 7, 9, 10, 11, 12, 13, 47, 48, 49])] [(5, [38], [0, 2, 4, 7]), (10, [49], [0, 2, 7, 47, 48]), (25, [102], [0, 2, 7, 10, 12, 13, 47, 48, 49, 100, 101])] [9] _ H R = F_15 R l h_0 h_1 h_2 h_3 h_4 h_5 h_6 h_7 a H by kernel_rfl) h
def F_16_r1 (l : Sl) (high : Bool) (all : Sl) (i1 : Int) (J_ : Sl -> HP) (I_2 : Sl -> Int -> HP) (M_2 : Sl -> Int -> HN) (own2 : Sl) (c : Int) (H7 : Heap) : Prop :=
 (xA i1 l (fun a3 =>
 ∃ x6, lB H7 ((a3.add (i1.toNat * 11)).add 4) x6 /\ (
 iteB x6 (
 iteB (decide (c < (3 : Int))) (
 CallsH Tryz.prog n_54 #[vS l, .bool high, vI i1, vI c, vS all] H7 (fun v3 H8 =>
 ∃ x7 : Int, ∃ x8 : Bool, v3 = .tuple #[vI x7, .bool x8] /\ (
 iteB x8 (
 letH (H8.push (.cells #[vI i1, vI (i64.wrap ((-1 : Int) - c)), vI c, vI x7] t_29 (0, 0))) (fun H9 =>
 runH Tryz.prog (Builtin.append_ #[t_53, t_53] t_53 #[vS own2, .slice (some (aZ H8)) 1 1]) H9 (fun v4 H10 =>
 ∃ own3 : Sl, v4 = vS own3 /\ (
 letV (i64.wrap (c + (1 : Int))) (fun c1 =>
 I_2 own3 c1 H10 /\ M_2 own3 c1 H10 < M_2 own2 c H7))))) (
 letV (i64.wrap (c + (1 : Int))) (fun c2 =>
 I_2 own2 c2 H8 /\ M_2 own2 c2 H8 < M_2 own2 c H7))))) (
 J_ own2 H7)) (
 J_ own2 H7))))
def F_16_r2 (R : VP) (I_ : Sl -> Bool -> Int -> HP) (M_ : Sl -> Bool -> Int -> HN) (all : Sl) (bad : Bool) (i1 : Int) (H2 : Heap) (own4 : Sl) (I_3 : Bool -> Int -> HP) (M_3 : Bool -> Int -> HN) (bad1 : Bool) (k3 : Int) (H12 : Heap) : Prop :=
 iteB (decide (k3 < (own4.n : Int))) (
 (xA k3 own4 (fun a4 =>
 ∃ x9, lI H12 ((a4.add (k3.toNat * 4)).add 2) x9 /\ (
 0 <= x9 /\ x9 < ((3 : Nat) : Int) /\ (iteB (x9 == (0 : Int)) (
 iteB bad1 (
 letV (i64.wrap (k3 + (1 : Int))) (fun k4 =>
 I_3 true k4 H12 /\ M_3 true k4 H12 < M_3 bad1 k3 H12)) (
 (xA k3 own4 (fun a5 =>
 ∃ x10, lI H12 ((a5.add (k3.toNat * 4)).add 3) x10 /\ (
 letV (i64.wrap (k3 + (1 : Int))) (fun k5 =>
 I_3 (decide (x10 > (15 : Int))) k5 H12 /\ M_3 (decide (x10 > (15 : Int))) k5 H12 < M_3 bad1 k3 H12)))))) (
 iteB (x9 == (1 : Int)) (
 iteB bad1 (
 letV (i64.wrap (k3 + (1 : Int))) (fun k6 =>
 I_3 true k6 H12 /\ M_3 true k6 H12 < M_3 bad1 k3 H12)) (
 (xA k3 own4 (fun a6 =>
 ∃ x11, lI H12 ((a6.add (k3.toNat * 4)).add 3) x11 /\ (
 letV (i64.wrap (k3 + (1 : Int))) (fun k7 =>
 I_3 (decide (x11 > (31 : Int))) k7 H12 /\ M_3 (decide (x11 > (31 : Int))) k7 H12 < M_3 bad1 k3 H12)))))) (
 iteB (x9 == (2 : Int)) (
 iteB bad1 (
 letV (i64.wrap (k3 + (1 : Int))) (fun k8 =>
 I_3 true k8 H12 /\ M_3 true k8 H12 < M_3 bad1 k3 H12)) (
 (xA k3 own4 (fun a7 =>
 ∃ x12, lI H12 ((a7.add (k3.toNat * 4)).add 3) x12 /\ (
 letV (i64.wrap (k3 + (1 : Int))) (fun k9 =>
 I_3 (decide (x12 > (44 : Int))) k9 H12 /\ M_3 (decide (x12 > (44 : Int))) k9 H12 < M_3 bad1 k3 H12)))))) (
 False)))))))) (
 iteB bad1 (
 R (.tuple #[vN, vI (11 : Int)]) H12) (
 runH Tryz.prog (Builtin.append_ #[t_53, t_53] t_53 #[vS own4, vS all]) H12 (fun v5 H13 =>
 ∃ all1 : Sl, v5 = vS all1 /\ (
 letV (i64.wrap (i1 - (1 : Int))) (fun i2 =>
 I_ all1 bad1 i2 H13 /\ M_ all1 bad1 i2 H13 < M_ all bad i1 H2)))))
def F_16_k3 (R : VP) (I_ : Sl -> Bool -> Int -> HP) (M_ : Sl -> Bool -> Int -> HN) (all : Sl) (bad : Bool) (i1 : Int) (H2 : Heap) (own4 : Sl) (H11 : Heap) : Prop :=
 ∃ I_3 : Bool -> Int -> HP, ∃ M_3 : Bool -> Int -> HN, I_3 bad (0 : Int) H11 /\ (∀ bad1 : Bool, ∀ k3 : Int, ∀ H12 : Heap, I_3 bad1 k3 H12 -> F_16_r2 R I_ M_ all bad i1 H2 own4 I_3 M_3 bad1 k3 H12)
def F_16_r4 (R : VP) (l : Sl) (high : Bool) (I_ : Sl -> Bool -> Int -> HP) (M_ : Sl -> Bool -> Int -> HN) (all : Sl) (bad : Bool) (i1 : Int) (H2 : Heap) (I_1 : Sl -> Int -> HP) (M_1 : Sl -> Int -> HN) (own : Sl) (k : Int) (H3 : Heap) : Prop :=
 (xA i1 l (fun a =>
 ∃ x1, lS H3 ((a.add (i1.toNat * 11)).add 10) x1 /\ (
 iteB (decide (k < (x1.n : Int))) (
 CallsH Tryz.prog n_53 #[vS l, .bool high, vI i1, vI k] H3 (fun v1 H4 =>
 ∃ x2 : Int, ∃ x3 : Bool, v1 = .tuple #[vI x2, .bool x3] /\ (
 iteB x3 (
 (xA i1 l (fun a1 =>
 ∃ x4, lS H4 ((a1.add (i1.toNat * 11)).add 10) x4 /\ (
 (xA k x4 (fun a2 =>
 ∃ x5, lI H4 ((a2.add (k.toNat * 2)).add 1) x5 /\ (
 letH (H4.push (.cells #[vI i1, vI k, vI x2, vI x5] t_29 (0, 0))) (fun H5 =>
 runH Tryz.prog (Builtin.append_ #[t_53, t_53] t_53 #[vS own, .slice (some (aZ H4)) 1 1]) H5 (fun v2 H6 =>
 ∃ own1 : Sl, v2 = vS own1 /\ (
 letV (i64.wrap (k + (1 : Int))) (fun k1 =>
 I_1 own1 k1 H6 /\ M_1 own1 k1 H6 < M_1 own k H3))))))))))) (
 letV (i64.wrap (k + (1 : Int))) (fun k2 =>
 I_1 own k2 H4 /\ M_1 own k2 H4 < M_1 own k H3))))) (
 ∃ J_ : Sl -> HP, (
 ∃ I_2 : Sl -> Int -> HP, ∃ M_2 : Sl -> Int -> HN, I_2 own (0 : Int) H3 /\ (∀ own2 : Sl, ∀ c : Int, ∀ H7 : Heap, I_2 own2 c H7 -> F_16_r1 l high all i1 J_ I_2 M_2 own2 c H7)) /\ (∀ own4 : Sl, ∀ H11 : Heap, J_ own4 H11 -> F_16_k3 R I_ M_ all bad i1 H2 own4 H11)))))
def F_16_r5 (R : VP) (l : Sl) (high : Bool) (I_ : Sl -> Bool -> Int -> HP) (M_ : Sl -> Bool -> Int -> HN) (all : Sl) (bad : Bool) (i1 : Int) (H2 : Heap) : Prop :=
 iteB (decide (i1 >= (0 : Int))) (
 ∃ I_1 : Sl -> Int -> HP, ∃ M_1 : Sl -> Int -> HN, I_1 (Sl.mk none 0 0) (0 : Int) H2 /\ (∀ own : Sl, ∀ k : Int, ∀ H3 : Heap, I_1 own k H3 -> F_16_r4 R l high I_ M_ all bad i1 H2 I_1 M_1 own k H3)) (
 R (.tuple #[vS all, vO]) H2)
def F_16 (R : VP) (l : Sl) (high : Bool) (H : Heap) : Prop :=
 CallsH Tryz.prog n_52 #[vS l] H (fun v H1 =>
 ∃ x : Bool, v = .bool x /\ (
 iteB (!x) (
 R (.tuple #[vN, vI (1 : Int)]) H1) (
 letV (i64.wrap ((l.n : Int) - (1 : Int))) (fun i =>
 ∃ I_ : Sl -> Bool -> Int -> HP, ∃ M_ : Sl -> Bool -> Int -> HN, I_ (Sl.mk none 0 0) false i H1 /\ (∀ all : Sl, ∀ bad : Bool, ∀ i1 : Int, ∀ H2 : Heap, I_ all bad i1 H2 -> F_16_r5 R l high I_ M_ all bad i1 H2)))))
theorem F_16_ok {R : VP} (l : Sl) (high : Bool) {H : Heap} (h : F_16 R l high H) : CallsH Tryz.prog n_16 #[vS l, .bool high] H R := wpF_ok Tryz.func16 (show wpF Tryz.prog Tryz.f16 [(6, vN), (7, .bool false), (8, vI 0), (9, vN), (10, vI 0), (13, vI 0), (16, vI 0)] [(21, [9], [0, 1, 6, 7, 8])] [(6, [6, 7, 8], [0, 1]), (10, [9, 10], [0, 1, 6, 7, 8]), (16, [9, 13], [0, 1, 6, 7, 8]), (22, [7, 16], [0, 1, 6, 8, 9])] [9] _ H R = F_16 R l high H by kernel_rfl) h
def F_17_k1 (needs : Sl) (I_ : Sl -> Int -> HP) (M_ : Sl -> Int -> HN) (out : Sl) (k : Int) (H2 : Heap) (x3 : Bool) (H3 : Heap) : Prop :=
 iteB x3 (
 (xA k needs (fun a4 =>
 ∃ x4, lI H3 (a4.add (k.toNat * 4)) x4 /\ ∃ x5, lI H3 ((a4.add (k.toNat * 4)).add 1) x5 /\ ∃ x6, lI H3 ((a4.add (k.toNat * 4)).add 2) x6 /\ ∃ x7, lI H3 ((a4.add (k.toNat * 4)).add 3) x7 /\ (
 letH (H3.push (.cells #[vI x4, vI x5, vI x6, vI x7] t_29 (0, 0))) (fun H4 =>
 runH Tryz.prog (Builtin.append_ #[t_53, t_53] t_53 #[vS out, .slice (some (aZ H3)) 1 1]) H4 (fun v H5 =>
 ∃ out1 : Sl, v = vS out1 /\ (
 letV (i64.wrap (k + (1 : Int))) (fun k1 =>
 I_ out1 k1 H5 /\ M_ out1 k1 H5 < M_ out k H2)))))))) (
 letV (i64.wrap (k + (1 : Int))) (fun k2 =>
 I_ out k2 H3 /\ M_ out k2 H3 < M_ out k H2))
def F_17_r2 (R : VP) (l needs : Sl) (parent classv : Int) (I_ : Sl -> Int -> HP) (M_ : Sl -> Int -> HN) (out : Sl) (k : Int) (H2 : Heap) : Prop :=
 iteB (decide (k < (needs.n : Int))) (
 (xA k needs (fun a1 =>
 ∃ f, lI H2 (a1.add (k.toNat * 4)) f /\ (
 ∃ J_1 : Bool -> HP, (
 (xA k needs (fun a2 =>
 ∃ x1, lI H2 ((a2.add (k.toNat * 4)).add 2) x1 /\ (
 iteB (x1 == classv) (
 iteB (decide (f >= (0 : Int))) (
 iteB (decide (f < (l.n : Int))) (
 (xA f l (fun a3 =>
 ∃ x2, lI H2 (a3.add (f.toNat * 11)) x2 /\ (
 J_1 (x2 == parent) H2)))) (
 J_1 false H2)) (
 J_1 false H2)) (
 J_1 false H2))))) /\ (∀ x3 : Bool, ∀ H3 : Heap, J_1 x3 H3 -> F_17_k1 needs I_ M_ out k H2 x3 H3))))) (
 R (vS out) H2)
def F_17_k3 (R : VP) (l needs : Sl) (parent classv : Int) (H1 : Heap) : Prop :=
 ∃ I_ : Sl -> Int -> HP, ∃ M_ : Sl -> Int -> HN, I_ (Sl.mk none 0 0) (0 : Int) H1 /\ (∀ out : Sl, ∀ k : Int, ∀ H2 : Heap, I_ out k H2 -> F_17_r2 R l needs parent classv I_ M_ out k H2)
def F_17 (R : VP) (l needs : Sl) (parent classv : Int) (H : Heap) : Prop :=
 ∃ J_ : HP, (
 iteB (decide (parent < (-1 : Int))) (
 R (vN) H) (
 iteB (decide (parent >= (l.n : Int))) (
 R (vN) H) (
 iteB (decide (parent >= (0 : Int))) (
 (xA parent l (fun a =>
 ∃ x, lB H ((a.add (parent.toNat * 11)).add 4) x /\ (
 iteB (!x) (
 R (vN) H) (
 J_ H))))) (
 J_ H)))) /\ (∀ H1 : Heap, J_ H1 -> F_17_k3 R l needs parent classv H1)
theorem F_17_ok {R : VP} (l needs : Sl) (parent classv : Int) {H : Heap} (h : F_17 R l needs parent classv H) : CallsH Tryz.prog n_17 #[vS l, vS needs, vI parent, vI classv] H R := wpF_ok Tryz.func17 (show wpF Tryz.prog Tryz.f17 [(9, vN), (10, vI 0), (68, .bool false)] [(4, [], [0, 1, 2, 3, 9]), (9, [68], [0, 1, 2, 3, 9, 10])] [(5, [9, 10], [0, 1, 2, 3])] [9] _ H R = F_17 R l needs parent classv H by kernel_rfl) h
def F_19 (R : VP) (h_0 : Int) (h_1 h_2 h_3 h_4 h_5 h_6 h_7 : Sl) (classv : Int) (H : Heap) : Prop :=
 letH (H.push (.cells #[vI h_0, vS h_1, vS h_2, vS h_3, vS h_4, vS h_5, vS h_6, vS h_7] t_27 (0, 0))) (fun H1 =>
 iteB (classv == (0 : Int)) (
 ∃ x, lS H1 (aP H 1) x /\ (
 ∃ x1, lS H1 (aP H 4) x1 /\ (
 CallsH Tryz.prog n_58 #[vS x, vS x1] H1 (fun v H2 =>
 ∃ x2 : Sl, v = vS x2 /\ (
 R (vS x2) H2))))) (
 iteB (classv == (1 : Int)) (
 ∃ x3, lS H1 (aP H 2) x3 /\ (
 ∃ x4, lS H1 (aP H 5) x4 /\ (
 CallsH Tryz.prog n_58 #[vS x3, vS x4] H1 (fun v1 H3 =>
 ∃ x5 : Sl, v1 = vS x5 /\ (
 R (vS x5) H3))))) (
 ∃ x6, lS H1 (aP H 3) x6 /\ (
 ∃ x7, lS H1 (aP H 5) x7 /\ (
 CallsH Tryz.prog n_58 #[vS x6, vS x7] H1 (fun v2 H4 =>
 ∃ x8 : Sl, v2 = vS x8 /\ (
 R (vS x8) H4)))))))
theorem F_19_ok {R : VP} (h_0 : Int) (h_1 h_2 h_3 h_4 h_5 h_6 h_7 : Sl) (classv : Int) {H : Heap} (h : F_19 R h_0 h_1 h_2 h_3 h_4 h_5 h_6 h_7 classv H) : CallsH Tryz.prog n_19 #[gE h_0 h_1 h_2 h_3 h_4 h_5 h_6 h_7, vI classv] H R := wpF_ok Tryz.func19 (show wpF Tryz.prog Tryz.f19 [] [] [] [9] _ H R = F_19 R h_0 h_1 h_2 h_3 h_4 h_5 h_6 h_7 classv H by kernel_rfl) h
def F_20_k1 (out bridges : Sl) (J_1 : Sl -> Int -> HP) (H28 : Heap) : Prop :=
 letH (H28.push (.cells #[vI (out.n : Int)] t_3 (0, 0))) (fun H29 =>
 runH Tryz.prog (Builtin.append_ #[t_52, t_52] t_52 #[vS bridges, .slice (some (aZ H28)) 1 1]) H29 (fun v13 H30 =>
 ∃ bridges1 : Sl, v13 = vS bridges1 /\ (
 J_1 bridges1 (2 : Int) H30)))
def F_20_k2 (out bridges : Sl) (H3 : Heap) (g : Addr) (J_1 : Sl -> Int -> HP) (H25 : Heap) : Prop :=
 ∃ J_3 : HP, (
 ∃ x46, lB H25 (g.add 6) x46 /\ (
 iteB x46 (
 ∃ x47, lI H25 (aP H3 7) x47 /\ (
 CallsH Tryz.prog n_9 #[vI x47, vI (4 : Int)] H25 (fun v12 H26 =>
 ∃ x48 : Int, v12 = vI x48 /\ (
 okRow H26 (g.add 7) 1 /\ (
 letH (wrs H26 (g.add 7) [vI x48]) (fun H27 =>
 J_3 H27)))))) (
 J_3 H25))) /\ (∀ H28 : Heap, J_3 H28 -> F_20_k1 out bridges J_1 H28)
def F_20_k3 (I_ : Sl -> Sl -> Int -> HP) (M_ : Sl -> Sl -> Int -> HN) (out bridges : Sl) (i : Int) (H3 : Heap) (g : Addr) (bridges2 : Sl) (most2 : Int) (H31 : Heap) : Prop :=
 ∃ x49, lS H31 (aP H3 10) x49 /\ (
 CallsH Tryz.prog n_59 #[vS x49, vI most2] H31 (fun v14 H32 =>
 ∃ x50 : Sl, v14 = vS x50 /\ (
 okRow H32 (g.add 10) 1 /\ (
 letH (wrs H32 (g.add 10) [vS x50]) (fun H33 =>
 ∃ x51, lI H33 g x51 /\ ∃ x52, lI H33 (g.add 1) x52 /\ ∃ x53, lI H33 (g.add 2) x53 /\ ∃ x54, lI H33 (g.add 3) x54 /\ ∃ x55, lB H33 (g.add 4) x55 /\ ∃ x56, lB H33 (g.add 5) x56 /\ ∃ x57, lB H33 (g.add 6) x57 /\ ∃ x58, lI H33 (g.add 7) x58 /\ ∃ x59, lI H33 (g.add 8) x59 /\ ∃ x60, lI H33 (g.add 9) x60 /\ ∃ x61, lS H33 (g.add 10) x61 /\ (
 letH (H33.push (.cells #[vI x51, vI x52, vI x53, vI x54, .bool x55, .bool x56, .bool x57, vI x58, vI x59, vI x60, vS x61] t_58 (0, 0))) (fun H34 =>
 runH Tryz.prog (Builtin.append_ #[t_22, t_22] t_22 #[vS out, .slice (some (aZ H33)) 1 1]) H34 (fun v15 H35 =>
 ∃ out1 : Sl, v15 = vS out1 /\ (
 letV (i64.wrap (i + (1 : Int))) (fun i2 =>
 I_ out1 bridges2 i2 H35 /\ M_ out1 bridges2 i2 H35 < M_ out bridges i H3))))))))))
def F_20_k4 (H : Heap) (I_ : Sl -> Sl -> Int -> HP) (M_ : Sl -> Sl -> Int -> HN) (out bridges : Sl) (i : Int) (H3 : Heap) (g : Addr) (H18 : Heap) : Prop :=
 ∃ x35, lI H18 g x35 /\ (
 ∃ x36, lI H18 (g.add 1) x36 /\ (
 runH Tryz.prog (Instr.lookup t_108 (.map (some H.size)) (.agg #[vI x35, vI x36]) false) H18 (fun v9 H19 =>
 ∃ x37 : Bool, v9 = .bool x37 /\ (
 iteB x37 (
 letV (i64.wrap (i + (1 : Int))) (fun i1 =>
 I_ out bridges i1 H19 /\ M_ out bridges i1 H19 < M_ out bridges i H3)) (
 ∃ x38, lI H19 g x38 /\ (
 ∃ x39, lI H19 (g.add 1) x39 /\ (
 runH Tryz.prog (Instr.mapUpdate t_108 (.map (some H.size)) (.agg #[vI x38, vI x39]) (.bool true)) H19 (fun _ H20 =>
 ∃ J_1 : Sl -> Int -> HP, (
 ∃ x40, lB H20 (g.add 4) x40 /\ (
 iteB x40 (
 ∃ J_2 : HP, (
 ∃ x41, lI H20 (aP H3 3) x41 /\ (
 CallsP Tryz.prog n_9 #[vI x41, vI (3 : Int)] (fun v10 =>
 ∃ x42 : Int, v10 = vI x42 /\ (
 ∃ x43, lB H20 (aP H3 6) x43 /\ (
 iteB x43 (
 okRow H20 (g.add 5) 1 /\ (
 letH (wrs H20 (g.add 5) [.bool (decide (x42 > (0 : Int)))]) (fun H21 =>
 okRow H21 (g.add 6) 1 /\ (
 letH (wrs H21 (g.add 6) [.bool true]) (fun H22 =>
 J_2 H22))))) (
 ∃ x44, lI H20 (aP H3 3) x44 /\ (
 CallsP Tryz.prog n_9 #[vI x44, vI (4 : Int)] (fun v11 =>
 ∃ x45 : Int, v11 = vI x45 /\ (
 okRow H20 (g.add 5) 1 /\ (
 letH (wrs H20 (g.add 5) [.bool (decide (x42 > (0 : Int)))]) (fun H23 =>
 okRow H23 (g.add 6) 1 /\ (
 letH (wrs H23 (g.add 6) [.bool (x45 == (0 : Int))]) (fun H24 =>
 J_2 H24))))))))))))) /\ (∀ H25 : Heap, J_2 H25 -> F_20_k2 out bridges H3 g J_1 H25)) (
 J_1 bridges (6 : Int) H20))) /\ (∀ bridges2 : Sl, ∀ most2 : Int, ∀ H31 : Heap, J_1 bridges2 most2 H31 -> F_20_k3 I_ M_ out bridges i H3 g bridges2 most2 H31)))))))))
def F_20_r5 (R : VP) (H : Heap) (l : Sl) (most : Int) (I_ : Sl -> Sl -> Int -> HP) (M_ : Sl -> Sl -> Int -> HN) (out bridges : Sl) (i : Int) (H3 : Heap) : Prop :=
 iteB (decide (i < (l.n : Int))) (
 iteB (decide ((out.n : Int) < most)) (
 (xA i l (fun a =>
 ∃ x, lI H3 (a.add (i.toNat * 11)) x /\ ∃ x1, lI H3 ((a.add (i.toNat * 11)).add 1) x1 /\ ∃ x2, lI H3 ((a.add (i.toNat * 11)).add 2) x2 /\ ∃ x3, lI H3 ((a.add (i.toNat * 11)).add 3) x3 /\ ∃ x4, lB H3 ((a.add (i.toNat * 11)).add 4) x4 /\ ∃ x5, lB H3 ((a.add (i.toNat * 11)).add 5) x5 /\ ∃ x6, lB H3 ((a.add (i.toNat * 11)).add 6) x6 /\ ∃ x7, lI H3 ((a.add (i.toNat * 11)).add 7) x7 /\ ∃ x8, lI H3 ((a.add (i.toNat * 11)).add 8) x8 /\ ∃ x9, lI H3 ((a.add (i.toNat * 11)).add 9) x9 /\ ∃ x10, lS H3 ((a.add (i.toNat * 11)).add 10) x10 /\ (
 letH (H3.push (.cells #[vO, vO, vO, vO, .bool false, .bool false, .bool false, vO, vO, vO, vN] t_58 (0, 0))) (fun H4 =>
 okRow H4 (aZ H3) 11 /\ (
 letH (wrs H4 (aZ H3) [vI x, vI x1, vI x2, vI x3, .bool x4, .bool x5, .bool x6, vI x7, vI x8, vI x9, vS x10]) (fun H5 =>
 ∃ J_ : Addr -> HP, (
 ∃ x11, lI H5 (aZ H3) x11 /\ (
 CallsP Tryz.prog n_9 #[vI x11, vI (bridges.n : Int)] (fun v =>
 ∃ x12 : Int, v = vI x12 /\ (
 (xA x12 bridges (fun a1 =>
 ∃ x13, lI H5 (a1.add (x12.toNat * 1)) x13 /\ (
 ∃ x14, lI H5 (aP H3 1) x14 /\ (
 CallsP Tryz.prog n_9 #[vI x14, vI (8 : Int)] (fun v1 =>
 ∃ x15 : Int, v1 = vI x15 /\ (
 ∃ x16, lI H5 (aP H3 2) x16 /\ (
 CallsP Tryz.prog n_9 #[vI x16, vI (9 : Int)] (fun v2 =>
 ∃ x17 : Int, v2 = vI x17 /\ (
 ∃ x18, lI H5 (aP H3 3) x18 /\ (
 CallsP Tryz.prog n_9 #[vI x18, vI (9 : Int)] (fun v3 =>
 ∃ x19 : Int, v3 = vI x19 /\ (
 ∃ x20, lB H5 (aP H3 4) x20 /\ (
 iteB x20 (
 ∃ x21, lI H5 (aP H3 8) x21 /\ (
 CallsP Tryz.prog n_9 #[vI x21, vI (5 : Int)] (fun v4 =>
 ∃ x22 : Int, v4 = vI x22 /\ (
 ∃ x23, lI H5 (aP H3 9) x23 /\ (
 CallsP Tryz.prog n_9 #[vI x23, vI (6 : Int)] (fun v5 =>
 ∃ x24 : Int, v5 = vI x24 /\ (
 (
 letH (H5.push (.cells #[vO, vI (1 : Int), vI (2 : Int), vI (4 : Int), vI (16 : Int), vI (32 : Int)] t_3 (0, 0))) (fun H6 =>
 Keeps H5 H6 [((aZ H3), 1), ((a1.add (x12.toNat * 1)), 1), ((aP H3 1), 1), ((aP H3 2), 1), ((aP H3 3), 1), ((aP H3 4), 1), ((aP H3 8), 1), ((aP H3 9), 1)] /\ (
 0 <= x24 /\ x24 < (6 : Int) /\ (∃ x25, lI H6 ((aZ H5).add (x24.toNat * 1)) x25 /\ (
 letH (H6.push (.cells #[vO, vO, vO, vO, .bool false, .bool false, .bool false, vO, vO, vO, vN] t_58 (0, 0))) (fun H7 =>
 Keeps H6 H7 [((aZ H3), 1), ((a1.add (x12.toNat * 1)), 1), ((aP H3 1), 1), ((aP H3 2), 1), ((aP H3 3), 1), ((aP H3 4), 1), ((aP H3 8), 1), ((aP H3 9), 1), (((aZ H5).add (x24.toNat * 1)), 1)] /\ (
 okRow H7 (aZ H6) 11 /\ (
 letH (wrs H7 (aZ H6) [vI x13, vI x15, vI (i64.wrap ((1 : Int) + x17)), vI x19, .bool true, .bool false, .bool false, vO, vI x22, vI x25, vN]) (fun H8 =>
 J_ (aZ H6) H8))))))))) /\ (
 letH (H5.push (.cells #[vO, vO, vO, vO, .bool false, .bool false, .bool false, vO, vO, vO, vN] t_58 (0, 0))) (fun H9 =>
 Keeps H5 H9 [((aZ H3), 1), ((a1.add (x12.toNat * 1)), 1), ((aP H3 1), 1), ((aP H3 2), 1), ((aP H3 3), 1), ((aP H3 4), 1), ((aP H3 8), 1), ((aP H3 9), 1)] /\ (
 letH (H9.push (.cells #[vO, vI (1 : Int), vI (2 : Int), vI (4 : Int), vI (16 : Int), vI (32 : Int)] t_3 (0, 0))) (fun H10 =>
 Keeps H9 H10 [((aZ H3), 1), ((a1.add (x12.toNat * 1)), 1), ((aP H3 1), 1), ((aP H3 2), 1), ((aP H3 3), 1), ((aP H3 4), 1), ((aP H3 8), 1), ((aP H3 9), 1)] /\ (
 0 <= x24 /\ x24 < (6 : Int) /\ (∃ x26, lI H10 ((aZ H9).add (x24.toNat * 1)) x26 /\ (
 okRow H10 (aZ H5) 11 /\ (
 letH (wrs H10 (aZ H5) [vI x13, vI x15, vI (i64.wrap ((1 : Int) + x17)), vI x19, .bool true, .bool false, .bool false, vO, vI x22, vI x26, vN]) (fun H11 =>
 J_ (aZ H5) H11)))))))))))))))) (
 ∃ x27, lI H5 (aP H3 2) x27 /\ (
 CallsP Tryz.prog n_9 #[vI x27, vI (3 : Int)] (fun v6 =>
 ∃ x28 : Int, v6 = vI x28 /\ (
 ∃ x29, lI H5 (aP H3 8) x29 /\ (
 CallsP Tryz.prog n_9 #[vI x29, vI (5 : Int)] (fun v7 =>
 ∃ x30 : Int, v7 = vI x30 /\ (
 ∃ x31, lI H5 (aP H3 9) x31 /\ (
 CallsP Tryz.prog n_9 #[vI x31, vI (6 : Int)] (fun v8 =>
 ∃ x32 : Int, v8 = vI x32 /\ (
 (
 letH (H5.push (.cells #[vO, vI (1 : Int), vI (2 : Int), vI (4 : Int), vI (16 : Int), vI (32 : Int)] t_3 (0, 0))) (fun H12 =>
 Keeps H5 H12 [((aZ H3), 1), ((a1.add (x12.toNat * 1)), 1), ((aP H3 1), 1), ((aP H3 2), 1), ((aP H3 3), 1), ((aP H3 4), 1), ((aP H3 2), 1), ((aP H3 8), 1), ((aP H3 9), 1)] /\ (
 0 <= x32 /\ x32 < (6 : Int) /\ (∃ x33, lI H12 ((aZ H5).add (x32.toNat * 1)) x33 /\ (
 letH (H12.push (.cells #[vO, vO, vO, vO, .bool false, .bool false, .bool false, vO, vO, vO, vN] t_58 (0, 0))) (fun H13 =>
 Keeps H12 H13 [((aZ H3), 1), ((a1.add (x12.toNat * 1)), 1), ((aP H3 1), 1), ((aP H3 2), 1), ((aP H3 3), 1), ((aP H3 4), 1), ((aP H3 2), 1), ((aP H3 8), 1), ((aP H3 9), 1), (((aZ H5).add (x32.toNat * 1)), 1)] /\ (
 okRow H13 (aZ H12) 11 /\ (
 letH (wrs H13 (aZ H12) [vI x13, vI x15, vI (i64.wrap ((1 : Int) + x17)), vI x19, .bool (x28 == (0 : Int)), .bool false, .bool false, vO, vI x30, vI x33, vN]) (fun H14 =>
 J_ (aZ H12) H14))))))))) /\ (
 letH (H5.push (.cells #[vO, vO, vO, vO, .bool false, .bool false, .bool false, vO, vO, vO, vN] t_58 (0, 0))) (fun H15 =>
 Keeps H5 H15 [((aZ H3), 1), ((a1.add (x12.toNat * 1)), 1), ((aP H3 1), 1), ((aP H3 2), 1), ((aP H3 3), 1), ((aP H3 4), 1), ((aP H3 2), 1), ((aP H3 8), 1), ((aP H3 9), 1)] /\ (
 letH (H15.push (.cells #[vO, vI (1 : Int), vI (2 : Int), vI (4 : Int), vI (16 : Int), vI (32 : Int)] t_3 (0, 0))) (fun H16 =>
 Keeps H15 H16 [((aZ H3), 1), ((a1.add (x12.toNat * 1)), 1), ((aP H3 1), 1), ((aP H3 2), 1), ((aP H3 3), 1), ((aP H3 4), 1), ((aP H3 2), 1), ((aP H3 8), 1), ((aP H3 9), 1)] /\ (
 0 <= x32 /\ x32 < (6 : Int) /\ (∃ x34, lI H16 ((aZ H15).add (x32.toNat * 1)) x34 /\ (
 okRow H16 (aZ H5) 11 /\ (
 letH (wrs H16 (aZ H5) [vI x13, vI x15, vI (i64.wrap ((1 : Int) + x17)), vI x19, .bool (x28 == (0 : Int)), .bool false, .bool false, vO, vI x30, vI x34, vN]) (fun H17 =>
 J_ (aZ H5) H17)))))))))))))))))))))))))))))))))))) /\ (∀ g : Addr, ∀ H18 : Heap, J_ g H18 -> F_20_k4 H I_ M_ out bridges i H3 g H18)))))))) (
 R (vS out) H3)) (
 R (vS out) H3)
def F_20 (R : VP) (l : Sl) (most : Int) (H : Heap) : Prop :=
 letH (H.push (.map #[] 0)) (fun H1 =>
 letH (H1.push (.cells #[vI (-1 : Int)] t_3 (0, 0))) (fun H2 =>
 ∃ I_ : Sl -> Sl -> Int -> HP, ∃ M_ : Sl -> Sl -> Int -> HN, I_ (Sl.mk none 0 0) (Sl.mk (some (aZ H1)) 1 1) (0 : Int) H2 /\ (∀ out bridges : Sl, ∀ i : Int, ∀ H3 : Heap, I_ out bridges i H3 -> F_20_r5 R H l most I_ M_ out bridges i H3)))
theorem F_20_ok {R : VP} (l : Sl) (most : Int) {H : Heap} (h : F_20 R l most H) : CallsH Tryz.prog n_20 #[vS l, vI most] H R := wpF_ok Tryz.func20 (show wpF Tryz.prog Tryz.f20 [(5, vN), (7, vN), (8, vI 0), (10, .pointer (some ⟨0, 0, none⟩)), (11, vI 0)] [(9, [10], [0, 1, 5, 6, 7, 8, 9]), (18, [7, 11], [0, 1, 5, 6, 8, 9, 10]), (15, [], [0, 1, 5, 6, 7, 8, 9, 10, 11]), (17, [], [0, 1, 5, 6, 7, 8, 9, 10, 11])] [(5, [5, 7, 8], [0, 1, 6])] [9] _ H R = F_20 R l most H by kernel_rfl) h
def F_21_k1 (H3 : Heap) (I_ : Int -> HP) (M_ : Int -> HN) (i : Int) (H27 H31 : Heap) : Prop :=
 ∃ x22, lS H31 (aP H3 6) x22 /\ (
 ∃ x23 : Int, rd H31 (aZ H27) = some (.int .u32 x23) /\ (
 letH (H31.push (.cells #[.int .u32 x23] t_114 (0, 0))) (fun H32 =>
 runH Tryz.prog (Builtin.append_ #[t_24, t_24] t_24 #[vS x22, .slice (some (aZ H31)) 1 1]) H32 (fun v8 H33 =>
 ∃ x24 : Sl, v8 = vS x24 /\ (
 okRow H33 (aP H3 6) 1 /\ (
 letH (wrs H33 (aP H3 6) [vS x24]) (fun H34 =>
 letV (i64.wrap (i + (1 : Int))) (fun i1 =>
 I_ i1 H34 /\ M_ i1 H34 < M_ i H27))))))))
def F_21_r2 (H H3 : Heap) (J_2 : HP) (I_ : Int -> HP) (M_ : Int -> HN) (i : Int) (H27 : Heap) : Prop :=
 ∃ x18, lS H27 (aP H 6) x18 /\ (
 iteB (decide (i < (x18.n : Int))) (
 iteB (decide (i < (5 : Int))) (
 ∃ x19, lS H27 (aP H 6) x19 /\ (
 (xA i x19 (fun a =>
 ∃ x20 : Int, rd H27 (a.add (i.toNat * 1)) = some (.int .u32 x20) /\ (
 letH (H27.push (.cells #[.int .u32 (0 : Int)] t_114 (0, 0))) (fun H28 =>
 okRow H28 (aZ H27) 1 /\ (
 letH (wrs H28 (aZ H27) [.int .u32 x20]) (fun H29 =>
 ∃ J_3 : HP, (
 ∃ x21 : Int, rd H29 (aZ H27) = some (.int .u32 x21) /\ (
 iteB (x21 == (0 : Int)) (
 iteB ((i.tmod (2 : Int)) == (0 : Int)) (
 okRow H29 (aZ H27) 1 /\ (
 letH (wrs H29 (aZ H27) [.int .u32 (7680 : Int)]) (fun H30 =>
 J_3 H30))) (
 J_3 H29)) (
 J_3 H29))) /\ (∀ H31 : Heap, J_3 H31 -> F_21_k1 H3 I_ M_ i H27 H31))))))))) (
 J_2 H27)) (
 J_2 H27))
def F_21_r3 (H H3 : Heap) (J_4 : HP) (I_1 : Int -> HP) (M_1 : Int -> HN) (i2 : Int) (H36 : Heap) : Prop :=
 ∃ x25, lS H36 (aP H 7) x25 /\ (
 iteB (decide (i2 < (x25.n : Int))) (
 iteB (decide (i2 < (40 : Int))) (
 ∃ x26, lS H36 (aP H3 6) x26 /\ (
 iteB (decide ((x26.n : Int) > (0 : Int))) (
 ∃ x27, lS H36 (aP H3 7) x27 /\ (
 ∃ x28, lS H36 (aP H 7) x28 /\ (
 (xA i2 x28 (fun a1 =>
 ∃ x29, lI H36 (a1.add (i2.toNat * 3)) x29 /\ (
 CallsP Tryz.prog n_9 #[vI x29, vI (8 : Int)] (fun v9 =>
 ∃ x30 : Int, v9 = vI x30 /\ (
 ∃ x31, lS H36 (aP H 7) x31 /\ (
 (xA i2 x31 (fun a2 =>
 ∃ x32, lI H36 ((a2.add (i2.toNat * 3)).add 1) x32 /\ (
 CallsP Tryz.prog n_9 #[vI x32, vI (4 : Int)] (fun v10 =>
 ∃ x33 : Int, v10 = vI x33 /\ (
 ∃ x34, lS H36 (aP H 7) x34 /\ (
 (xA i2 x34 (fun a3 =>
 ∃ x35, lI H36 ((a3.add (i2.toNat * 3)).add 2) x35 /\ (
 ∃ x36, lS H36 (aP H3 6) x36 /\ (
 CallsP Tryz.prog n_9 #[vI x35, vI (x36.n : Int)] (fun v11 =>
 ∃ x37 : Int, v11 = vI x37 /\ (
 letH (H36.push (.cells #[vI x30, vI (i64.wrap ((1 : Int) + x33)), vI x37] t_116 (0, 0))) (fun H37 =>
 Keeps H36 H37 [((aP H3 7), 1)] /\ (
 runH Tryz.prog (Builtin.append_ #[t_25, t_25] t_25 #[vS x27, .slice (some (aZ H36)) 1 1]) H37 (fun v12 H38 =>
 ∃ x38 : Sl, v12 = vS x38 /\ (
 okRow H38 (aP H3 7) 1 /\ (
 letH (wrs H38 (aP H3 7) [vS x38]) (fun H39 =>
 letV (i64.wrap (i2 + (1 : Int))) (fun i3 =>
 I_1 i3 H39 /\ M_1 i3 H39 < M_1 i2 H36)))))))))))))))))))))))))))) (
 J_4 H36))) (
 J_4 H36)) (
 J_4 H36))
def F_21_r4 (R : VP) (H1 H3 : Heap) (I_2 : Int -> HP) (M_2 : Int -> HN) (i4 : Int) (H41 : Heap) : Prop :=
 iteB (decide (i4 < (32 : Int))) (
 ∃ x39, lS H41 (aP H3 6) x39 /\ (
 iteB (decide ((x39.n : Int) > (0 : Int))) (
 ∃ x40, lS H41 (aP H3 7) x40 /\ (
 ∃ x41, lS H41 (aP H3 6) x41 /\ (
 (x41.n : Int) ≠ 0 /\ (
 letH (H41.push (.cells #[vI (i4.tmod (8 : Int)), vI (i64.wrap ((1 : Int) + (i64.wrap (i4.tdiv (8 : Int))))), vI (i4.tmod (x41.n : Int))] t_116 (0, 0))) (fun H42 =>
 Keeps H41 H42 [((aP H3 7), 1)] /\ (
 runH Tryz.prog (Builtin.append_ #[t_25, t_25] t_25 #[vS x40, .slice (some (aZ H41)) 1 1]) H42 (fun v13 H43 =>
 ∃ x42 : Sl, v13 = vS x42 /\ (
 okRow H43 (aP H3 7) 1 /\ (
 letH (wrs H43 (aP H3 7) [vS x42]) (fun H44 =>
 letV (i64.wrap (i4 + (1 : Int))) (fun i5 =>
 I_2 i5 H44 /\ M_2 i5 H44 < M_2 i4 H41))))))))))) (
 ∃ x43, lI H41 (aZ H3) x43 /\ ∃ x44, lS H41 (aP H3 1) x44 /\ ∃ x45, lS H41 (aP H3 2) x45 /\ ∃ x46, lS H41 (aP H3 3) x46 /\ ∃ x47, lS H41 (aP H3 4) x47 /\ ∃ x48, lS H41 (aP H3 5) x48 /\ ∃ x49, lS H41 (aP H3 6) x49 /\ ∃ x50, lS H41 (aP H3 7) x50 /\ (
 okRow H41 (aZ H1) 8 /\ (
 letH (wrs H41 (aZ H1) [vI x43, vS x44, vS x45, vS x46, vS x47, vS x48, vS x49, vS x50]) (fun H45 =>
 ∃ r, lI H45 (aZ H1) r /\ ∃ r1, lS H45 (aP H1 1) r1 /\ ∃ r2, lS H45 (aP H1 2) r2 /\ ∃ r3, lS H45 (aP H1 3) r3 /\ ∃ r4, lS H45 (aP H1 4) r4 /\ ∃ r5, lS H45 (aP H1 5) r5 /\ ∃ r6, lS H45 (aP H1 6) r6 /\ ∃ r7, lS H45 (aP H1 7) r7 /\ (
 R (gE r r1 r2 r3 r4 r5 r6 r7) H45))))))) (
 ∃ x51, lI H41 (aZ H3) x51 /\ ∃ x52, lS H41 (aP H3 1) x52 /\ ∃ x53, lS H41 (aP H3 2) x53 /\ ∃ x54, lS H41 (aP H3 3) x54 /\ ∃ x55, lS H41 (aP H3 4) x55 /\ ∃ x56, lS H41 (aP H3 5) x56 /\ ∃ x57, lS H41 (aP H3 6) x57 /\ ∃ x58, lS H41 (aP H3 7) x58 /\ (
 okRow H41 (aZ H1) 8 /\ (
 letH (wrs H41 (aZ H1) [vI x51, vS x52, vS x53, vS x54, vS x55, vS x56, vS x57, vS x58]) (fun H46 =>
 ∃ r8, lI H46 (aZ H1) r8 /\ ∃ r9, lS H46 (aP H1 1) r9 /\ ∃ r10, lS H46 (aP H1 2) r10 /\ ∃ r11, lS H46 (aP H1 3) r11 /\ ∃ r12, lS H46 (aP H1 4) r12 /\ ∃ r13, lS H46 (aP H1 5) r13 /\ ∃ r14, lS H46 (aP H1 6) r14 /\ ∃ r15, lS H46 (aP H1 7) r15 /\ (
 R (gE r8 r9 r10 r11 r12 r13 r14 r15) H46)))))
def F_21_k5 (R : VP) (H1 H3 H40 : Heap) : Prop :=
 ∃ I_2 : Int -> HP, ∃ M_2 : Int -> HN, I_2 (0 : Int) H40 /\ (∀ i4 : Int, ∀ H41 : Heap, I_2 i4 H41 -> F_21_r4 R H1 H3 I_2 M_2 i4 H41)
def F_21_k6 (R : VP) (H H1 H3 H35 : Heap) : Prop :=
 ∃ J_4 : HP, (
 ∃ I_1 : Int -> HP, ∃ M_1 : Int -> HN, I_1 (0 : Int) H35 /\ (∀ i2 : Int, ∀ H36 : Heap, I_1 i2 H36 -> F_21_r3 H H3 J_4 I_1 M_1 i2 H36)) /\ (∀ H40 : Heap, J_4 H40 -> F_21_k5 R H1 H3 H40)
def F_21_k7 (R : VP) (H H1 H3 H26 : Heap) : Prop :=
 ∃ J_2 : HP, (
 ∃ I_ : Int -> HP, ∃ M_ : Int -> HN, I_ (0 : Int) H26 /\ (∀ i : Int, ∀ H27 : Heap, I_ i H27 -> F_21_r2 H H3 J_2 I_ M_ i H27)) /\ (∀ H35 : Heap, J_2 H35 -> F_21_k6 R H H1 H3 H35)
def F_21_k8 (R : VP) (H H1 H3 H8 : Heap) : Prop :=
 ∃ x4, lS H8 (aP H 1) x4 /\ (
 CallsH Tryz.prog n_60 #[vS x4, vU (4096 : Int), vU (65536 : Int), vU (1024 : Int), vI (3 : Int)] H8 (fun v2 H9 =>
 ∃ x5 : Sl, v2 = vS x5 /\ (
 okRow H9 (aP H3 1) 1 /\ (
 letH (wrs H9 (aP H3 1) [vS x5]) (fun H10 =>
 ∃ x6, lS H10 (aP H 2) x6 /\ (
 CallsH Tryz.prog n_60 #[vS x6, vU (16777216 : Int), vU (4294967296 : Int), vU (262144 : Int), vI (3 : Int)] H10 (fun v3 H11 =>
 ∃ x7 : Sl, v3 = vS x7 /\ (
 okRow H11 (aP H3 2) 1 /\ (
 letH (wrs H11 (aP H3 2) [vS x7]) (fun H12 =>
 ∃ x8, lS H12 (aP H 3) x8 /\ (
 CallsH Tryz.prog n_60 #[vS x8, vU (4294967296 : Int), vU (1099511627776 : Int), vU (268435456 : Int), vI (2 : Int)] H12 (fun v4 H13 =>
 ∃ x9 : Sl, v4 = vS x9 /\ (
 okRow H13 (aP H3 3) 1 /\ (
 letH (wrs H13 (aP H3 3) [vS x9]) (fun H14 =>
 ∃ x10, lS H14 (aP H 4) x10 /\ (
 CallsH Tryz.prog n_60 #[vS x10, vU (0 : Int), vU (65536 : Int), vU (256 : Int), vI (2 : Int)] H14 (fun v5 H15 =>
 ∃ x11 : Sl, v5 = vS x11 /\ (
 okRow H15 (aP H3 4) 1 /\ (
 letH (wrs H15 (aP H3 4) [vS x11]) (fun H16 =>
 ∃ x12, lS H16 (aP H 5) x12 /\ (
 CallsH Tryz.prog n_60 #[vS x12, vU (0 : Int), vU (4294967296 : Int), vU (65536 : Int), vI (2 : Int)] H16 (fun v6 H17 =>
 ∃ x13 : Sl, v6 = vS x13 /\ (
 okRow H17 (aP H3 5) 1 /\ (
 letH (wrs H17 (aP H3 5) [vS x13]) (fun H18 =>
 ∃ J_1 : HP, (
 ∃ x14, lI H18 (aZ H) x14 /\ (
 CallsH Tryz.prog n_9 #[vI x14, vI (3 : Int)] H18 (fun v7 H19 =>
 ∃ x15 : Int, v7 = vI x15 /\ (
 iteB (decide (x15 > (0 : Int))) (
 ∃ x16, lS H19 (aP H3 4) x16 /\ (
 0 <= (0 : Int) /\ (0 : Int) <= (x16.c : Int) /\ (
 letH (H19.push (.cells #[vU (4096 : Int), vU (61440 : Int)] t_95 (0, 0))) (fun H20 =>
 Keeps H19 H20 [((aP H3 4), 1)] /\ (
 okRow H20 (aP H3 1) 1 /\ (
 letH (wrs H20 (aP H3 1) [.slice (some (aZ H19)) 1 1]) (fun H21 =>
 okRow H21 (aP H3 4) 1 /\ (
 letH (wrs H21 (aP H3 4) [.slice (slP x16.p x16.c 0 2) ((0 : Int).toNat - 0) (x16.c - 0)]) (fun H22 =>
 ∃ x17, lS H22 (aP H3 5) x17 /\ (
 0 <= (0 : Int) /\ (0 : Int) <= (x17.c : Int) /\ (
 letH (H22.push (.cells #[vU (268435456 : Int), vU (4026531840 : Int)] t_95 (0, 0))) (fun H23 =>
 Keeps H22 H23 [((aP H3 5), 1)] /\ (
 okRow H23 (aP H3 2) 1 /\ (
 letH (wrs H23 (aP H3 2) [.slice (some (aZ H22)) 1 1]) (fun H24 =>
 okRow H24 (aP H3 5) 1 /\ (
 letH (wrs H24 (aP H3 5) [.slice (slP x17.p x17.c 0 2) ((0 : Int).toNat - 0) (x17.c - 0)]) (fun H25 =>
 J_1 H25))))))))))))))))) (
 J_1 H19))))) /\ (∀ H26 : Heap, J_1 H26 -> F_21_k7 R H H1 H3 H26))))))))))))))))))))))))))
def F_21 (R : VP) (h_0 : Int) (h_1 h_2 h_3 h_4 h_5 h_6 h_7 : Sl) (H : Heap) : Prop :=
 letH (H.push (.cells #[vI h_0, vS h_1, vS h_2, vS h_3, vS h_4, vS h_5, vS h_6, vS h_7] t_27 (0, 0))) (fun H1 =>
 letH (H1.push (.cells #[vO, vN, vN, vN, vN, vN, vN, vN] t_27 (0, 0))) (fun H2 =>
 ∃ x, lI H2 (aZ H) x /\ (
 CallsH Tryz.prog n_9 #[vI x, vI (40 : Int)] H2 (fun v H3 =>
 ∃ x1 : Int, v = vI x1 /\ (
 letH (H3.push (.cells #[vO, vN, vN, vN, vN, vN, vN, vN] t_27 (0, 0))) (fun H4 =>
 okRow H4 (aZ H3) 8 /\ (
 letH (wrs H4 (aZ H3) [vI (i64.wrap ((1 : Int) + x1)), vN, vN, vN, vN, vN, vN, vN]) (fun H5 =>
 ∃ J_ : HP, (
 ∃ x2, lI H5 (aZ H) x2 /\ (
 CallsH Tryz.prog n_9 #[vI x2, vI (5 : Int)] H5 (fun v1 H6 =>
 ∃ x3 : Int, v1 = vI x3 /\ (
 iteB (decide (x3 > (0 : Int))) (
 okRow H6 (aZ H3) 1 /\ (
 letH (wrs H6 (aZ H3) [vI (256 : Int)]) (fun H7 =>
 J_ H7))) (
 J_ H6))))) /\ (∀ H8 : Heap, J_ H8 -> F_21_k8 R H H1 H3 H8)))))))))
theorem F_21_ok {R : VP} (h_0 : Int) (h_1 h_2 h_3 h_4 h_5 h_6 h_7 : Sl) {H : Heap} (h : F_21 R h_0 h_1 h_2 h_3 h_4 h_5 h_6 h_7 H) : CallsH Tryz.prog n_21 #[gE h_0 h_1 h_2 h_3 h_4 h_5 h_6 h_7] H R := wpF_ok Tryz.func21 (show wpF Tryz.prog Tryz.f21 [(4, vI 0), (6, vI 0), (7, vI 0)] [(4, [], [1, 2, 3]), (12, [], [1, 2, 3]), (19, [], [1, 2, 3]), (18, [], [1, 2, 3, 4, 5]), (23, [], [2, 3])] [(13, [4], [1, 2, 3]), (20, [6], [1, 2, 3]), (24, [7], [2, 3])] [9] _ H R = F_21 R h_0 h_1 h_2 h_3 h_4 h_5 h_6 h_7 H by kernel_rfl) h
def F_22_r1 (l : Sl) (H7 : Heap) (x12 : Sl) (I_2 : Int -> HP) (M_2 : Int -> HN) (i2 : Int) (H18 : Heap) (I_3 : Int -> HP) (M_3 : Int -> HN) (classv2 : Int) (H19 : Heap) : Prop :=
 iteB (decide (classv2 < (3 : Int))) (
 CallsH Tryz.prog n_63 #[.slice (some (aZ H7)) ((x12.n : Int).toNat) ((x12.n : Int).toNat), vI i2, vI (i64.wrap ((-1 : Int) - classv2))] H19 (fun v5 H20 =>
 ∃ w : Int, v5 = vI w /\ (
 iteB (decide (w >= (0 : Int))) (
 0 <= w /\ w < (((x12.n : Int).toNat : Nat) : Int) /\ (∃ x36, lU H20 (((aZ H7).add (w.toNat * 5)).add 4) x36 /\ (
 0 <= w /\ w < (((x12.n : Int).toNat : Nat) : Int) /\ (∃ x37, lI H20 (((aZ H7).add (w.toNat * 5)).add 3) x37 /\ (
 0 <= (u64.wrap x37) /\ (
 letH (H20.push (.cells #[vU x36, vU (u64.wrap ((1 : Int) * 2 ^ (min (u64.wrap x37).toNat IntKind.u64.bits)))] t_95 (0, 0))) (fun H21 =>
 CallsH Tryz.prog n_62 #[vS l, .slice (some (aZ H7)) ((x12.n : Int).toNat) ((x12.n : Int).toNat), vS x12, vI i2, vI classv2, .slice (some (aZ H20)) 1 1] H21 (fun v6 H22 =>
 ∃ x38 x39 : Int, ∃ x40 x41 x42 : Int, v6 = .tuple #[.agg #[vI x38, vI x39, vU x40, vU x41], vI x42] /\ (
 letV (i64.wrap (classv2 + (1 : Int))) (fun classv3 =>
 I_3 classv3 H22 /\ M_3 classv3 H22 < M_3 classv2 H19)))))))))) (
 letV (i64.wrap (classv2 + (1 : Int))) (fun classv4 =>
 I_3 classv4 H20 /\ M_3 classv4 H20 < M_3 classv2 H19))))) (
 letV (i64.wrap (i2 + (1 : Int))) (fun i3 =>
 I_2 i3 H19 /\ M_2 i3 H19 < M_2 i2 H18))
def F_22_r2 (R : VP) (l : Sl) (H1 H7 : Heap) (x12 : Sl) (I_2 : Int -> HP) (M_2 : Int -> HN) (i2 : Int) (H18 : Heap) : Prop :=
 iteB (decide (i2 < (l.n : Int))) (
 ∃ I_3 : Int -> HP, ∃ M_3 : Int -> HN, I_3 (0 : Int) H18 /\ (∀ classv2 : Int, ∀ H19 : Heap, I_3 classv2 H19 -> F_22_r1 l H7 x12 I_2 M_2 i2 H18 I_3 M_3 classv2 H19)) (
 okRow H18 (aZ H1) 4 /\ (
 letH (wrs H18 (aZ H1) [vO, vO, vU (0 : Int), vU (0 : Int)]) (fun H23 =>
 ∃ r12, lI H23 (aZ H1) r12 /\ ∃ r13, lI H23 (aP H1 1) r13 /\ ∃ r14, lU H23 (aP H1 2) r14 /\ ∃ r15, lU H23 (aP H1 3) r15 /\ (
 R (.tuple #[.slice (some (aZ H7)) ((x12.n : Int).toNat) ((x12.n : Int).toNat), .agg #[vI r12, vI r13, vU r14, vU r15], vO]) H23))))
def F_22_r3 (R : VP) (H : Heap) (l : Sl) (H1 H7 : Heap) (x12 : Sl) (I_1 : Int -> HP) (M_1 : Int -> HN) (classv : Int) (H12 : Heap) : Prop :=
 iteB (decide (classv < (3 : Int))) (
 ∃ x18, lI H12 (aZ H) x18 /\ ∃ x19, lS H12 (aP H 1) x19 /\ ∃ x20, lS H12 (aP H 2) x20 /\ ∃ x21, lS H12 (aP H 3) x21 /\ ∃ x22, lS H12 (aP H 4) x22 /\ ∃ x23, lS H12 (aP H 5) x23 /\ ∃ x24, lS H12 (aP H 6) x24 /\ ∃ x25, lS H12 (aP H 7) x25 /\ (
 CallsH Tryz.prog n_19 #[gE x18 x19 x20 x21 x22 x23 x24 x25, vI classv] H12 (fun v3 H13 =>
 ∃ x26 : Sl, v3 = vS x26 /\ (
 CallsH Tryz.prog n_62 #[vS l, .slice (some (aZ H7)) ((x12.n : Int).toNat) ((x12.n : Int).toNat), vS x12, vI (-1 : Int), vI classv, vS x26] H13 (fun v4 H14 =>
 ∃ x27 x28 : Int, ∃ x29 x30 x31 : Int, v4 = .tuple #[.agg #[vI x27, vI x28, vU x29, vU x30], vI x31] /\ (
 letH (H14.push (.cells #[vO, vO, vU (0 : Int), vU (0 : Int)] t_39 (0, 0))) (fun H15 =>
 okRow H15 (aZ H14) 4 /\ (
 letH (wrs H15 (aZ H14) [vI x27, vI x28, vU x29, vU x30]) (fun H16 =>
 iteB (x31 != (0 : Int)) (
 ∃ x32, lI H16 (aZ H14) x32 /\ ∃ x33, lI H16 (aP H14 1) x33 /\ ∃ x34, lU H16 (aP H14 2) x34 /\ ∃ x35, lU H16 (aP H14 3) x35 /\ (
 okRow H16 (aZ H1) 4 /\ (
 letH (wrs H16 (aZ H1) [vI x32, vI x33, vU x34, vU x35]) (fun H17 =>
 ∃ r8, lI H17 (aZ H1) r8 /\ ∃ r9, lI H17 (aP H1 1) r9 /\ ∃ r10, lU H17 (aP H1 2) r10 /\ ∃ r11, lU H17 (aP H1 3) r11 /\ (
 R (.tuple #[vN, .agg #[vI r8, vI r9, vU r10, vU r11], vI x31]) H17))))) (
 letV (i64.wrap (classv + (1 : Int))) (fun classv1 =>
 I_1 classv1 H16 /\ M_1 classv1 H16 < M_1 classv H12))))))))))) (
 ∃ I_2 : Int -> HP, ∃ M_2 : Int -> HN, I_2 (0 : Int) H12 /\ (∀ i2 : Int, ∀ H18 : Heap, I_2 i2 H18 -> F_22_r2 R l H1 H7 x12 I_2 M_2 i2 H18))
def F_22_r4 (R : VP) (H : Heap) (l : Sl) (H1 H7 : Heap) (x12 : Sl) (I_ : Int -> HP) (M_ : Int -> HN) (i : Int) (H10 : Heap) : Prop :=
 iteB (decide (i < (x12.n : Int))) (
 (xA i x12 (fun a =>
 ∃ x14, lI H10 (a.add (i.toNat * 4)) x14 /\ ∃ x15, lI H10 ((a.add (i.toNat * 4)).add 1) x15 /\ ∃ x16, lI H10 ((a.add (i.toNat * 4)).add 2) x16 /\ ∃ x17, lI H10 ((a.add (i.toNat * 4)).add 3) x17 /\ (
 0 <= i /\ i < (((x12.n : Int).toNat : Nat) : Int) /\ (okRow H10 ((aZ H7).add (i.toNat * 5)) 4 /\ (
 letH (wrs H10 ((aZ H7).add (i.toNat * 5)) [vI x14, vI x15, vI x16, vI x17]) (fun H11 =>
 letV (i64.wrap (i + (1 : Int))) (fun i1 =>
 I_ i1 H11 /\ M_ i1 H11 < M_ i H10)))))))) (
 ∃ I_1 : Int -> HP, ∃ M_1 : Int -> HN, I_1 (0 : Int) H10 /\ (∀ classv : Int, ∀ H12 : Heap, I_1 classv H12 -> F_22_r3 R H l H1 H7 x12 I_1 M_1 classv H12))
def F_22_k5 (R : VP) (H : Heap) (l : Sl) (H1 : Heap) (x10 : Bool) (H5 : Heap) : Prop :=
 iteB x10 (
 okRow H5 (aZ H1) 4 /\ (
 letH (wrs H5 (aZ H1) [vO, vO, vU (0 : Int), vU (0 : Int)]) (fun H6 =>
 ∃ r, lI H6 (aZ H1) r /\ ∃ r1, lI H6 (aP H1 1) r1 /\ ∃ r2, lU H6 (aP H1 2) r2 /\ ∃ r3, lU H6 (aP H1 3) r3 /\ (
 R (.tuple #[vN, .agg #[vI r, vI r1, vU r2, vU r3], vI (1 : Int)]) H6)))) (
 ∃ x11, lS H5 (aP H 3) x11 /\ (
 CallsH Tryz.prog n_16 #[vS l, .bool (decide ((x11.n : Int) > (0 : Int)))] H5 (fun v2 H7 =>
 ∃ x12 : Sl, ∃ x13 : Int, v2 = .tuple #[vS x12, vI x13] /\ (
 iteB (x13 != (0 : Int)) (
 okRow H7 (aZ H1) 4 /\ (
 letH (wrs H7 (aZ H1) [vO, vO, vU (0 : Int), vU (0 : Int)]) (fun H8 =>
 ∃ r4, lI H8 (aZ H1) r4 /\ ∃ r5, lI H8 (aP H1 1) r5 /\ ∃ r6, lU H8 (aP H1 2) r6 /\ ∃ r7, lU H8 (aP H1 3) r7 /\ (
 R (.tuple #[vN, .agg #[vI r4, vI r5, vU r6, vU r7], vI x13]) H8)))) (
 0 <= (x12.n : Int) /\ (x12.n : Int) <= (x12.n : Int) /\ (x12.n : Int) * ((40 : Nat) : Int) <= 281474976710656 /\ (
 letH (H7.push (.cells (zeroRow (.agg #[vO, vO, vO, vO, vU (0 : Int)]) (x12.n : Int).toNat) t_32 (0, 0))) (fun H9 =>
 ∃ I_ : Int -> HP, ∃ M_ : Int -> HN, I_ (0 : Int) H9 /\ (∀ i : Int, ∀ H10 : Heap, I_ i H10 -> F_22_r4 R H l H1 H7 x12 I_ M_ i H10))))))))
def F_22 (R : VP) (l : Sl) (h_0 : Int) (h_1 h_2 h_3 h_4 h_5 h_6 h_7 : Sl) (H : Heap) : Prop :=
 letH (H.push (.cells #[vI h_0, vS h_1, vS h_2, vS h_3, vS h_4, vS h_5, vS h_6, vS h_7] t_27 (0, 0))) (fun H1 =>
 letH (H1.push (.cells #[vO, vO, vU (0 : Int), vU (0 : Int)] t_39 (0, 0))) (fun H2 =>
 ∃ J_ : Bool -> HP, (
 CallsH Tryz.prog n_52 #[vS l] H2 (fun v H3 =>
 ∃ x : Bool, v = .bool x /\ (
 iteB (!x) (
 J_ true H3) (
 ∃ x1, lI H3 (aZ H) x1 /\ ∃ x2, lS H3 (aP H 1) x2 /\ ∃ x3, lS H3 (aP H 2) x3 /\ ∃ x4, lS H3 (aP H 3) x4 /\ ∃ x5, lS H3 (aP H 4) x5 /\ ∃ x6, lS H3 (aP H 5) x6 /\ ∃ x7, lS H3 (aP H 6) x7 /\ ∃ x8, lS H3 (aP H 7) x8 /\ (
 CallsH Tryz.prog n_61 #[gE x1 x2 x3 x4 x5 x6 x7 x8] H3 (fun v1 H4 =>
 ∃ x9 : Bool, v1 = .bool x9 /\ (
 J_ (!x9) H4))))))) /\ (∀ x10 : Bool, ∀ H5 : Heap, J_ x10 H5 -> F_22_k5 R H l H1 x10 H5)))
theorem F_22_ok {R : VP} (l : Sl) (h_0 : Int) (h_1 h_2 h_3 h_4 h_5 h_6 h_7 : Sl) {H : Heap} (h : F_22 R l h_0 h_1 h_2 h_3 h_4 h_5 h_6 h_7 H) : CallsH Tryz.prog n_22 #[vS l, gE h_0 h_1 h_2 h_3 h_4 h_5 h_6 h_7] H R := wpF_ok Tryz.func22 (show wpF Tryz.prog Tryz.f22 [(10, vI 0), (11, vI 0), (14, vI 0), (15, vI 0), (24, .bool false)] [(2, [24], [0, 3, 5])] [(8, [10], [0, 3, 5, 7, 9]), (12, [11], [0, 3, 5, 7, 9]), (18, [14], [0, 5, 7, 9]), (21, [15], [0, 5, 7, 9, 14])] [9] _ H R = F_22 R l h_0 h_1 h_2 h_3 h_4 h_5 h_6 h_7 H by kernel_rfl) h
def F_23_k1 (R : VP) (l : Sl) (p : Int) (H5 : Heap) (J_ : HP) (x18 : Bool) (H10 : Heap) : Prop :=
 iteB x18 (
 R (.tuple #[vN, vI (1 : Int)]) H10) (
 ∃ x19, lI H10 (aZ H5) x19 /\ (
 iteB (x19 == (-1 : Int)) (
 okRow H10 (aZ H5) 1 /\ (
 letH (wrs H10 (aZ H5) [vI p]) (fun H11 =>
 J_ H11))) (
 ∃ x20, lI H10 (aZ H5) x20 /\ (
 okRow H10 (aZ H5) 1 /\ (
 letH (wrs H10 (aZ H5) [vI (i64.wrap (x20 + (l.n : Int)))]) (fun H12 =>
 J_ H12))))))
def F_23_k2 (I_ : Sl -> Int -> HP) (M_ : Sl -> Int -> HN) (out1 : Sl) (i : Int) (H5 H13 : Heap) : Prop :=
 ∃ x21, lI H13 (aZ H5) x21 /\ ∃ x22, lI H13 (aP H5 1) x22 /\ ∃ x23, lI H13 (aP H5 2) x23 /\ ∃ x24, lI H13 (aP H5 3) x24 /\ ∃ x25, lB H13 (aP H5 4) x25 /\ ∃ x26, lB H13 (aP H5 5) x26 /\ ∃ x27, lB H13 (aP H5 6) x27 /\ ∃ x28, lI H13 (aP H5 7) x28 /\ ∃ x29, lI H13 (aP H5 8) x29 /\ ∃ x30, lI H13 (aP H5 9) x30 /\ ∃ x31, lS H13 (aP H5 10) x31 /\ (
 letH (H13.push (.cells #[vI x21, vI x22, vI x23, vI x24, .bool x25, .bool x26, .bool x27, vI x28, vI x29, vI x30, vS x31] t_58 (0, 0))) (fun H14 =>
 runH Tryz.prog (Builtin.append_ #[t_22, t_22] t_22 #[vS out1, .slice (some (aZ H13)) 1 1]) H14 (fun v5 H15 =>
 ∃ out2 : Sl, v5 = vS out2 /\ (
 letV (i64.wrap (i + (1 : Int))) (fun i1 =>
 I_ out2 i1 H15 /\ M_ out2 i1 H15 < M_ out1 i H5)))))
def F_23_r3 (R : VP) (l : Sl) (p : Int) (card : Sl) (I_ : Sl -> Int -> HP) (M_ : Sl -> Int -> HN) (out1 : Sl) (i : Int) (H5 : Heap) : Prop :=
 iteB (decide (i < (card.n : Int))) (
 (xA i card (fun a =>
 ∃ x3, lI H5 (a.add (i.toNat * 11)) x3 /\ ∃ x4, lI H5 ((a.add (i.toNat * 11)).add 1) x4 /\ ∃ x5, lI H5 ((a.add (i.toNat * 11)).add 2) x5 /\ ∃ x6, lI H5 ((a.add (i.toNat * 11)).add 3) x6 /\ ∃ x7, lB H5 ((a.add (i.toNat * 11)).add 4) x7 /\ ∃ x8, lB H5 ((a.add (i.toNat * 11)).add 5) x8 /\ ∃ x9, lB H5 ((a.add (i.toNat * 11)).add 6) x9 /\ ∃ x10, lI H5 ((a.add (i.toNat * 11)).add 7) x10 /\ ∃ x11, lI H5 ((a.add (i.toNat * 11)).add 8) x11 /\ ∃ x12, lI H5 ((a.add (i.toNat * 11)).add 9) x12 /\ ∃ x13, lS H5 ((a.add (i.toNat * 11)).add 10) x13 /\ (
 letH (H5.push (.cells #[vO, vO, vO, vO, .bool false, .bool false, .bool false, vO, vO, vO, vN] t_58 (0, 0))) (fun H6 =>
 okRow H6 (aZ H5) 11 /\ (
 letH (wrs H6 (aZ H5) [vI x3, vI x4, vI x5, vI x6, .bool x7, .bool x8, .bool x9, vI x10, vI x11, vI x12, vS x13]) (fun H7 =>
 ∃ x14, lS H7 (aP H5 10) x14 /\ (
 runH Tryz.prog (Builtin.append_ #[t_56, t_56] t_56 #[vN, vS x14]) H7 (fun v4 H8 =>
 ∃ x15 : Sl, v4 = vS x15 /\ (
 okRow H8 (aP H5 10) 1 /\ (
 letH (wrs H8 (aP H5 10) [vS x15]) (fun H9 =>
 ∃ J_ : HP, (
 ∃ J_1 : Bool -> HP, (
 ∃ x16, lI H9 (aZ H5) x16 /\ (
 iteB (decide (x16 < (-1 : Int))) (
 J_1 true H9) (
 ∃ x17, lI H9 (aZ H5) x17 /\ (
 J_1 (decide (x17 >= i)) H9)))) /\ (∀ x18 : Bool, ∀ H10 : Heap, J_1 x18 H10 -> F_23_k1 R l p H5 J_ x18 H10)) /\ (∀ H13 : Heap, J_ H13 -> F_23_k2 I_ M_ out1 i H5 H13))))))))))))) (
 CallsH Tryz.prog n_52 #[vS out1] H5 (fun v6 H16 =>
 ∃ x32 : Bool, v6 = .bool x32 /\ (
 iteB (!x32) (
 R (.tuple #[vN, vI (1 : Int)]) H16) (
 R (.tuple #[vS out1, vO]) H16))))
def F_23 (R : VP) (l : Sl) (p : Int) (card : Sl) (H : Heap) : Prop :=
 CallsH Tryz.prog n_52 #[vS l] H (fun v H1 =>
 ∃ x : Bool, v = .bool x /\ (
 iteB (!x) (
 R (.tuple #[vN, vI (1 : Int)]) H1) (
 CallsH Tryz.prog n_64 #[vS l, vI p] H1 (fun v1 H2 =>
 ∃ x1 : Bool, v1 = .bool x1 /\ (
 iteB (!x1) (
 R (.tuple #[vN, vI (6 : Int)]) H2) (
 CallsH Tryz.prog n_65 #[vS l, vI p] H2 (fun v2 H3 =>
 ∃ x2 : Sl, v2 = vS x2 /\ (
 iteB (decide ((x2.n : Int) > (0 : Int))) (
 R (.tuple #[vN, vI (17 : Int)]) H3) (
 runH Tryz.prog (Builtin.append_ #[t_22, t_22] t_22 #[vN, vS l]) H3 (fun v3 H4 =>
 ∃ out : Sl, v3 = vS out /\ (
 ∃ I_ : Sl -> Int -> HP, ∃ M_ : Sl -> Int -> HN, I_ out (0 : Int) H4 /\ (∀ out1 : Sl, ∀ i : Int, ∀ H5 : Heap, I_ out1 i H5 -> F_23_r3 R l p card I_ M_ out1 i H5))))))))))))
theorem F_23_ok {R : VP} (l : Sl) (p : Int) (card : Sl) {H : Heap} (h : F_23 R l p card H) : CallsH Tryz.prog n_23 #[vS l, vI p, vS card] H R := wpF_ok Tryz.func23 (show wpF Tryz.prog Tryz.f23 [(8, vN), (9, vI 0), (45, .bool false)] [(18, [], [0, 1, 2, 8, 9, 10]), (15, [45], [0, 1, 2, 8, 9, 10])] [(9, [8, 9], [0, 1, 2])] [9] _ H R = F_23 R l p card H by kernel_rfl) h
def F_24_r1 (R : VP) (t : Sl) (atv : Int) (I_ : Sl -> Int -> HP) (M_ : Sl -> Int -> HN) (l : Sl) (i : Int) (H1 : Heap) : Prop :=
 iteB (decide (i < (t.n : Int))) (
 (xA i t (fun a =>
 ∃ x, lB H1 ((a.add (i.toNat * 11)).add 6) x /\ (
 iteB x (
 letH (H1.push (.cells #[vI i] t_3 (0, 0))) (fun H2 =>
 runH Tryz.prog (Builtin.append_ #[t_52, t_52] t_52 #[vS l, .slice (some (aZ H1)) 1 1]) H2 (fun v H3 =>
 ∃ l1 : Sl, v = vS l1 /\ (
 letV (i64.wrap (i + (1 : Int))) (fun i1 =>
 I_ l1 i1 H3 /\ M_ l1 i1 H3 < M_ l i H1))))) (
 letV (i64.wrap (i + (1 : Int))) (fun i2 =>
 I_ l i2 H1 /\ M_ l i2 H1 < M_ l i H1)))))) (
 iteB ((l.n : Int) == (0 : Int)) (
 R (vI (-1 : Int)) H1) (
 CallsH Tryz.prog n_9 #[vI atv, vI (l.n : Int)] H1 (fun v1 H4 =>
 ∃ x1 : Int, v1 = vI x1 /\ (
 (xA x1 l (fun a1 =>
 ∃ x2, lI H4 (a1.add (x1.toNat * 1)) x2 /\ (
 R (vI x2) H4)))))))
def F_24 (R : VP) (t : Sl) (atv : Int) (H : Heap) : Prop :=
 ∃ I_ : Sl -> Int -> HP, ∃ M_ : Sl -> Int -> HN, I_ (Sl.mk none 0 0) (0 : Int) H /\ (∀ l : Sl, ∀ i : Int, ∀ H1 : Heap, I_ l i H1 -> F_24_r1 R t atv I_ M_ l i H1)
theorem F_24_ok {R : VP} (t : Sl) (atv : Int) {H : Heap} (h : F_24 R t atv H) : CallsH Tryz.prog n_24 #[vS t, vI atv] H R := wpF_ok Tryz.func24 (show wpF Tryz.prog Tryz.f24 [(5, vN), (6, vI 0)] [] [(3, [5, 6], [0, 1])] [9] _ H R = F_24 R t atv H by kernel_rfl) h
def F_25 (R : VP) (l : Sl) (H : Heap) : Prop :=
 CallsH Tryz.prog n_20 #[vS l, vI (5 : Int)] H (fun v H1 =>
 ∃ x : Sl, v = vS x /\ (
 R (vS x) H1))
theorem F_25_ok {R : VP} (l : Sl) {H : Heap} (h : F_25 R l H) : CallsH Tryz.prog n_25 #[vS l] H R := wpF_ok Tryz.func25 (show wpF Tryz.prog Tryz.f25 [] [] [] [9] _ H R = F_25 R l H by kernel_rfl) h
def F_26_r1 (R : VP) (l : Sl) (n : Int) (I_ : Int -> HP) (M_ : Int -> HN) (x10 : Int) (H4 : Heap) : Prop :=
 iteB (decide (x10 < (((l.n - n.toNat) : Nat) : Int))) (
 0 <= x10 /\ x10 < (((l.n - n.toNat) : Nat) : Int) /\ (unSome (slP l.p l.c n.toNat 11) (fun a =>
 ∃ x11, lI H4 (a.add (x10.toNat * 11)) x11 /\ ∃ x12, lI H4 ((a.add (x10.toNat * 11)).add 1) x12 /\ ∃ x13, lI H4 ((a.add (x10.toNat * 11)).add 2) x13 /\ ∃ x14, lI H4 ((a.add (x10.toNat * 11)).add 3) x14 /\ ∃ x15, lB H4 ((a.add (x10.toNat * 11)).add 4) x15 /\ ∃ x16, lB H4 ((a.add (x10.toNat * 11)).add 5) x16 /\ ∃ x17, lB H4 ((a.add (x10.toNat * 11)).add 6) x17 /\ ∃ x18, lI H4 ((a.add (x10.toNat * 11)).add 7) x18 /\ ∃ x19, lI H4 ((a.add (x10.toNat * 11)).add 8) x19 /\ ∃ x20, lI H4 ((a.add (x10.toNat * 11)).add 9) x20 /\ ∃ x21, lS H4 ((a.add (x10.toNat * 11)).add 10) x21 /\ (
 letH (H4.push (.cells #[vO, vO, vO, vO, .bool false, .bool false, .bool false, vO, vO, vO, vN] t_58 (0, 0))) (fun H5 =>
 okRow H5 (aZ H4) 11 /\ (
 letH (wrs H5 (aZ H4) [vI x11, vI x12, vI x13, vI x14, .bool x15, .bool x16, .bool x17, vI x18, vI x19, vI x20, vS x21]) (fun H6 =>
 ∃ x22, lI H6 (aZ H4) x22 /\ (
 iteB (decide (x22 < n)) (
 ∃ x23, lI H6 (aZ H4) x23 /\ (
 CallsH Tryz.prog n_66 #[vS l, vI x23] H6 (fun v2 H7 =>
 ∃ x24 : Bool, v2 = .bool x24 /\ (
 iteB (!x24) (
 R (.bool false) H7) (
 I_ (i64.wrap (x10 + (1 : Int))) H7 /\ M_ (i64.wrap (x10 + (1 : Int))) H7 < M_ x10 H4))))) (
 I_ (i64.wrap (x10 + (1 : Int))) H6 /\ M_ (i64.wrap (x10 + (1 : Int))) H6 < M_ x10 H4))))))))) (
 R (.bool true) H4)
def F_26 (R : VP) (l : Sl) (h_0 : Int) (h_1 h_2 h_3 h_4 h_5 h_6 h_7 : Sl) (n : Int) (H : Heap) : Prop :=
 letH (H.push (.cells #[vI h_0, vS h_1, vS h_2, vS h_3, vS h_4, vS h_5, vS h_6, vS h_7] t_27 (0, 0))) (fun H1 =>
 CallsH Tryz.prog n_45 #[vS l] H1 (fun v H2 =>
 ∃ x : Bool, v = .bool x /\ (
 iteB (!x) (
 R (.bool false) H2) (
 ∃ x1, lI H2 (aZ H) x1 /\ ∃ x2, lS H2 (aP H 1) x2 /\ ∃ x3, lS H2 (aP H 2) x3 /\ ∃ x4, lS H2 (aP H 3) x4 /\ ∃ x5, lS H2 (aP H 4) x5 /\ ∃ x6, lS H2 (aP H 5) x6 /\ ∃ x7, lS H2 (aP H 6) x7 /\ ∃ x8, lS H2 (aP H 7) x8 /\ (
 CallsH Tryz.prog n_46 #[gE x1 x2 x3 x4 x5 x6 x7 x8] H2 (fun v1 H3 =>
 ∃ x9 : Bool, v1 = .bool x9 /\ (
 iteB (!x9) (
 R (.bool false) H3) (
 iteB (decide (n < (0 : Int))) (
 R (.bool false) H3) (
 iteB (decide (n > (l.n : Int))) (
 R (.bool false) H3) (
 0 <= n /\ n <= (l.n : Int) /\ (
 ∃ I_ : Int -> HP, ∃ M_ : Int -> HN, I_ (0 : Int) H3 /\ (∀ x10 : Int, ∀ H4 : Heap, I_ x10 H4 -> F_26_r1 R l n I_ M_ x10 H4))))))))))))
theorem F_26_ok {R : VP} (l : Sl) (h_0 : Int) (h_1 h_2 h_3 h_4 h_5 h_6 h_7 : Sl) (n : Int) {H : Heap} (h : F_26 R l h_0 h_1 h_2 h_3 h_4 h_5 h_6 h_7 n H) : CallsH Tryz.prog n_26 #[vS l, gE h_0 h_1 h_2 h_3 h_4 h_5 h_6 h_7, vI n] H R := wpF_ok Tryz.func26 (show wpF Tryz.prog Tryz.f26 [(31, vI 0)] [] [(4, [31], [0, 2, 29, 30])] [9] _ H R = F_26 R l h_0 h_1 h_2 h_3 h_4 h_5 h_6 h_7 n H by kernel_rfl) h
def F_27_r1 (R : Value -> Heap -> Prop) (l : Sl) (H2 : Heap) (I_ : Int -> Heap -> Prop) (M_ : Int -> Heap -> Nat) (i1 : Int) (H4 : Heap) (x7 : Sl) (I_1 : Int -> Heap -> Prop) (M_1 : Int -> Heap -> Nat) (x8 : Int) (H9 : Heap) : Prop :=
 iteB (decide (x8 < (x7.n : Int))) (
 0 <= x8 /\ x8 < (x7.n : Int) /\ (unSome x7.p (fun a =>
 ∃ x9 : Int, rd H9 (a.add (x8.toNat * 4)) = some (.int .i64 x9) /\ ∃ x10 : Int, rd H9 ((a.add (x8.toNat * 4)).add 1) = some (.int .i64 x10) /\ ∃ x11 : Int, rd H9 ((a.add (x8.toNat * 4)).add 2) = some (.int .i64 x11) /\ ∃ x12 : Int, rd H9 ((a.add (x8.toNat * 4)).add 3) = some (.int .i64 x12) /\ (
 letH (H9.push (.cells #[.int .i64 (0 : Int), .int .i64 (0 : Int), .int .i64 (0 : Int), .int .i64 (0 : Int)] t_29 (0, 0))) (fun H10 : Heap =>
 okRow H10 (⟨H9.size, 0, none⟩ : Addr) 4 /\ (
 letH (wrs H10 (⟨H9.size, 0, none⟩ : Addr) [.int .i64 x9, .int .i64 x10, .int .i64 x11, .int .i64 x12]) (fun H11 : Heap =>
 ∃ x13 : Int, rd H11 ((⟨H9.size, 0, none⟩ : Addr).add 3) = some (.int .i64 x13) /\ (
 ∃ x14 : Int, rd H11 ((⟨H9.size, 0, none⟩ : Addr).add 2) = some (.int .i64 x14) /\ (
 CallsH Tryz.prog n_69 #[.int .i64 x14] H11 (fun v4 H12 =>
 ∃ x15 : Int, v4 = .int .i64 x15 /\ (
 Keeps H11 H12 [(((⟨H9.size, 0, none⟩ : Addr).add 3), 1)] /\ (
 iteB (decide (x13 > x15)) (
 R (.tuple #[.slice none 0 0, .int .i64 (11 : Int)]) H12) (
 0 <= i1 /\ i1 < (l.n : Int) /\ (unSome l.p (fun a1 =>
 ∃ parent : Int, rd H12 (a1.add (i1.toNat * 11)) = some (.int .i64 parent) /\ (
 iteB (decide (parent >= (0 : Int))) (
 ∃ x16 : Int, rd H12 ((⟨H9.size, 0, none⟩ : Addr).add 2) = some (.int .i64 x16) /\ (
 ∃ x17 : Int, rd H12 ((⟨H9.size, 0, none⟩ : Addr).add 2) = some (.int .i64 x17) /\ (
 0 <= parent /\ parent < (((l.n : Int).toNat : Nat) : Int) /\ (0 <= x17 /\ x17 < ((3 : Nat) : Int) /\ (∃ x18 : Sl, rd H12 (((⟨H2.size, 0, none⟩ : Addr).add (parent.toNat * 3)).add (x17.toNat * 1)) = some (.slice x18.p x18.n x18.c) /\ (
 ∃ x19 : Int, rd H12 ((⟨H9.size, 0, none⟩ : Addr).add 3) = some (.int .i64 x19) /\ (
 0 <= parent /\ parent < (((l.n : Int).toNat : Nat) : Int) /\ (letH (H12.push (.cells #[.int .i64 x19] t_3 (0, 0))) (fun H13 : Heap =>
 Keeps H12 H13 [(((⟨H9.size, 0, none⟩ : Addr).add 2), 1), (((⟨H9.size, 0, none⟩ : Addr).add 2), 1), ((((⟨H2.size, 0, none⟩ : Addr).add (parent.toNat * 3)).add (x17.toNat * 1)), 1)] /\ (
 runH Tryz.prog (Builtin.append_ #[t_52, t_52] t_52 #[.slice x18.p x18.n x18.c, .slice (some (⟨H12.size, 0, none⟩ : Addr)) 1 1]) H13 (fun v5 H14 =>
 ∃ x20 : Sl, v5 = .slice x20.p x20.n x20.c /\ (
 Keeps H13 H14 [(((⟨H9.size, 0, none⟩ : Addr).add 2), 1)] /\ (
 0 <= x16 /\ x16 < ((3 : Nat) : Int) /\ (okRow H14 (((⟨H2.size, 0, none⟩ : Addr).add (parent.toNat * 3)).add (x16.toNat * 1)) 1 /\ (
 letH (wrs H14 (((⟨H2.size, 0, none⟩ : Addr).add (parent.toNat * 3)).add (x16.toNat * 1)) [.slice x20.p x20.n x20.c]) (fun H15 : Heap =>
 I_1 (IntKind.i64.wrap (x8 + (1 : Int))) H15 /\ M_1 (IntKind.i64.wrap (x8 + (1 : Int))) H15 < M_1 x8 H9)))))))))))))))) (
 I_1 (IntKind.i64.wrap (x8 + (1 : Int))) H12 /\ M_1 (IntKind.i64.wrap (x8 + (1 : Int))) H12 < M_1 x8 H9))))))))))))))))) (
 letV (IntKind.i64.wrap (i1 - (1 : Int))) (fun i2 : Int =>
 I_ i2 H9 /\ M_ i2 H9 < M_ i1 H4))
def F_27_r2 (R : Value -> Heap -> Prop) (l : Sl) (H1 : Heap) (I_2 : Sl -> Int -> Heap -> Prop) (M_2 : Sl -> Int -> Heap -> Nat) (needs : Sl) (x21 : Int) (H16 : Heap) : Prop :=
 iteB (decide (x21 < (((l.n : Int).toNat : Nat) : Int))) (
 0 <= x21 /\ x21 < (((l.n : Int).toNat : Nat) : Int) /\ (∃ part : Sl, rd H16 ((⟨H1.size, 0, none⟩ : Addr).add (x21.toNat * 1)) = some (.slice part.p part.n part.c) /\ (
 runH Tryz.prog (Builtin.append_ #[t_53, t_53] t_53 #[.slice needs.p needs.n needs.c, .slice part.p part.n part.c]) H16 (fun v6 H17 =>
 ∃ needs1 : Sl, v6 = .slice needs1.p needs1.n needs1.c /\ (
 I_2 needs1 (IntKind.i64.wrap (x21 + (1 : Int))) H17 /\ M_2 needs1 (IntKind.i64.wrap (x21 + (1 : Int))) H17 < M_2 needs x21 H16))))) (
 R (.tuple #[.slice needs.p needs.n needs.c, .int .i64 (0 : Int)]) H16)
def F_27_r3 (R : Value -> Heap -> Prop) (l : Sl) (high : Bool) (H1 : Heap) (H2 : Heap) (I_ : Int -> Heap -> Prop) (M_ : Int -> Heap -> Nat) (i1 : Int) (H4 : Heap) : Prop :=
 iteB (decide (i1 >= (0 : Int))) (
 0 <= i1 /\ i1 < (((l.n : Int).toNat : Nat) : Int) /\ (∃ x1 : Sl, rd H4 ((⟨H2.size, 0, none⟩ : Addr).add (i1.toNat * 3)) = some (.slice x1.p x1.n x1.c) /\ ∃ x2 : Sl, rd H4 (((⟨H2.size, 0, none⟩ : Addr).add (i1.toNat * 3)).add 1) = some (.slice x2.p x2.n x2.c) /\ ∃ x3 : Sl, rd H4 (((⟨H2.size, 0, none⟩ : Addr).add (i1.toNat * 3)).add 2) = some (.slice x3.p x3.n x3.c) /\ (
 CallsH Tryz.prog n_67 #[.slice l.p l.n l.c, .bool high, .int .i64 i1] H4 (fun v1 H5 =>
 ∃ x4 : Sl, v1 = .slice x4.p x4.n x4.c /\ (
 Keeps H4 H5 [(((⟨H2.size, 0, none⟩ : Addr).add (i1.toNat * 3)), 3)] /\ (
 CallsH Tryz.prog n_68 #[.slice l.p l.n l.c, .bool high, .int .i64 i1, .agg #[.slice x1.p x1.n x1.c, .slice x2.p x2.n x2.c, .slice x3.p x3.n x3.c]] H5 (fun v2 H6 =>
 ∃ x5 : Sl, v2 = .slice x5.p x5.n x5.c /\ (
 runH Tryz.prog (Builtin.append_ #[t_53, t_53] t_53 #[.slice x4.p x4.n x4.c, .slice x5.p x5.n x5.c]) H6 (fun v3 H7 =>
 ∃ x6 : Sl, v3 = .slice x6.p x6.n x6.c /\ (
 0 <= i1 /\ i1 < (((l.n : Int).toNat : Nat) : Int) /\ (okRow H7 ((⟨H1.size, 0, none⟩ : Addr).add (i1.toNat * 1)) 1 /\ (
 letH (wrs H7 ((⟨H1.size, 0, none⟩ : Addr).add (i1.toNat * 1)) [.slice x6.p x6.n x6.c]) (fun H8 : Heap =>
 0 <= i1 /\ i1 < (((l.n : Int).toNat : Nat) : Int) /\ (∃ x7 : Sl, rd H8 ((⟨H1.size, 0, none⟩ : Addr).add (i1.toNat * 1)) = some (.slice x7.p x7.n x7.c) /\ (
 ∃ I_1 : Int -> Heap -> Prop, ∃ M_1 : Int -> Heap -> Nat, I_1 (0 : Int) H8 /\ (∀ x8 : Int, ∀ H9 : Heap, I_1 x8 H9 -> F_27_r1 R l H2 I_ M_ i1 H4 x7 I_1 M_1 x8 H9)))))))))))))))) (
 ∃ I_2 : Sl -> Int -> Heap -> Prop, ∃ M_2 : Sl -> Int -> Heap -> Nat, I_2 (Sl.mk none 0 0) (0 : Int) H4 /\ (∀ needs : Sl, ∀ x21 : Int, ∀ H16 : Heap, I_2 needs x21 H16 -> F_27_r2 R l H1 I_2 M_2 needs x21 H16))
def F_27 (R : Value -> Heap -> Prop) (l : Sl) (high : Bool) (H : Heap) : Prop :=
 CallsH Tryz.prog n_45 #[.slice l.p l.n l.c] H (fun v H1 =>
 ∃ x : Bool, v = .bool x /\ (
 iteB (!x) (
 R (.tuple #[.slice none 0 0, .int .i64 (1 : Int)]) H1) (
 0 <= (l.n : Int) /\ (l.n : Int) <= (l.n : Int) /\ (l.n : Int) * ((24 : Nat) : Int) <= 281474976710656 /\ (
 letH (H1.push (.cells (zeroRow (.slice none 0 0) (l.n : Int).toNat) t_53 (0, 0))) (fun H2 : Heap =>
 0 <= (l.n : Int) /\ (l.n : Int) <= (l.n : Int) /\ (l.n : Int) * ((72 : Nat) : Int) <= 281474976710656 /\ (
 letH (H2.push (.cells (zeroRow (.agg #[.slice none 0 0, .slice none 0 0, .slice none 0 0]) (l.n : Int).toNat) t_126 (0, 0))) (fun H3 : Heap =>
 letV (IntKind.i64.wrap ((l.n : Int) - (1 : Int))) (fun i : Int =>
 ∃ I_ : Int -> Heap -> Prop, ∃ M_ : Int -> Heap -> Nat, I_ i H3 /\ (∀ i1 : Int, ∀ H4 : Heap, I_ i1 H4 -> F_27_r3 R l high H1 H2 I_ M_ i1 H4)))))))))
theorem F_27_ok {R : VP} (l : Sl) (high : Bool) {H : Heap} (h : F_27 R l high H) : CallsH Tryz.prog n_27 #[vS l, .bool high] H R := wpF_ok Tryz.func27 (show wpF Tryz.prog Tryz.f27 [(8, vI 0), (12, vN), (52, vI 0), (89, vI 0)] [] [(6, [8], [0, 1, 6, 7]), (10, [52], [0, 1, 6, 7, 8, 50, 51]), (20, [12, 89], [87, 88])] [9] _ H R = F_27 R l high H by kernel_rfl) h
def F_28 (R : VP) (l needs : Sl) (n : Int) (H : Heap) : Prop :=
 (
 0 <= (needs.n : Int) /\ (needs.n : Int) <= (needs.n : Int) /\ (needs.n : Int) * ((8 : Nat) : Int) <= 281474976710656 /\ (
 letH (H.push (.cells (zeroRow (vU (0 : Int)) (needs.n : Int).toNat) t_30 (0, 0))) (fun H1 =>
 0 <= (needs.n : Int) /\ (needs.n : Int) <= (needs.n : Int) /\ (needs.n : Int) * ((1 : Nat) : Int) <= 281474976710656 /\ (
 letH (H1.push (.cells (zeroRow (.bool false) (needs.n : Int).toNat) t_4 (0, 0))) (fun H2 =>
 letH (H2.push (.cells #[vS l, vI n, vS needs, .slice (some (aZ H)) ((needs.n : Int).toNat) ((needs.n : Int).toNat), .slice (some (aZ H1)) ((needs.n : Int).toNat) ((needs.n : Int).toNat)] t_130 (0, 0))) (fun H3 =>
 R (.pointer (some (aZ H2))) H3)))))) /\ (
 0 <= (needs.n : Int) /\ (needs.n : Int) <= (needs.n : Int) /\ (needs.n : Int) * ((1 : Nat) : Int) <= 281474976710656 /\ (
 letH (H.push (.cells (zeroRow (.bool false) (needs.n : Int).toNat) t_4 (0, 0))) (fun H4 =>
 0 <= (needs.n : Int) /\ (needs.n : Int) <= (needs.n : Int) /\ (needs.n : Int) * ((8 : Nat) : Int) <= 281474976710656 /\ (
 letH (H4.push (.cells (zeroRow (vU (0 : Int)) (needs.n : Int).toNat) t_30 (0, 0))) (fun H5 =>
 letH (H5.push (.cells #[vS l, vI n, vS needs, .slice (some (aZ H4)) ((needs.n : Int).toNat) ((needs.n : Int).toNat), .slice (some (aZ H)) ((needs.n : Int).toNat) ((needs.n : Int).toNat)] t_130 (0, 0))) (fun H6 =>
 R (.pointer (some (aZ H5))) H6))))))
theorem F_28_ok {R : VP} (l needs : Sl) (n : Int) {H : Heap} (h : F_28 R l needs n H) : CallsH Tryz.prog n_28 #[vS l, vS needs, vI n] H R := wpF_ok Tryz.func28 (show wpF Tryz.prog Tryz.f28 [] [] [] [9] _ H R = F_28 R l needs n H by kernel_rfl) h
def F_29_r1 (R : VP) (x : Addr) (a : Sl) (I_ : Int -> HP) (M_ : Int -> HN) (x1 : Int) (H1 : Heap) : Prop :=
 iteB (decide (x1 < (a.n : Int))) (
 (xA x1 a (fun a1 =>
 ∃ x2, lI H1 (a1.add (x1.toNat * 5)) x2 /\ ∃ x3, lI H1 ((a1.add (x1.toNat * 5)).add 1) x3 /\ ∃ x4, lI H1 ((a1.add (x1.toNat * 5)).add 2) x4 /\ ∃ x5, lI H1 ((a1.add (x1.toNat * 5)).add 3) x5 /\ ∃ x6, lU H1 ((a1.add (x1.toNat * 5)).add 4) x6 /\ (
 letH (H1.push (.cells #[vO, vO, vO, vO, vU (0 : Int)] t_32 (0, 0))) (fun H2 =>
 okRow H2 (aZ H1) 5 /\ (
 letH (wrs H2 (aZ H1) [vI x2, vI x3, vI x4, vI x5, vU x6]) (fun H3 =>
 ∃ x7, lI H3 (aZ H1) x7 /\ (
 ∃ x8, lI H3 (aP H1 1) x8 /\ (
 CallsH Tryz.prog n_70 #[.pointer (some x), vI x7, vI x8] H3 (fun v H4 =>
 ∃ i : Int, v = vI i /\ (
 iteB (decide (i < (0 : Int))) (
 R (.bool false) H4) (
 ∃ x9, lS H4 (x.add 2) x9 /\ (
 (xA i x9 (fun a2 =>
 ∃ x10, lI H4 (a2.add (i.toNat * 4)) x10 /\ ∃ x11, lI H4 ((a2.add (i.toNat * 4)).add 1) x11 /\ ∃ x12, lI H4 ((a2.add (i.toNat * 4)).add 2) x12 /\ ∃ x13, lI H4 ((a2.add (i.toNat * 4)).add 3) x13 /\ (
 ∃ x14, lI H4 (aZ H1) x14 /\ ∃ x15, lI H4 (aP H1 1) x15 /\ ∃ x16, lI H4 (aP H1 2) x16 /\ ∃ x17, lI H4 (aP H1 3) x17 /\ (
 iteB (!((x10 == x14) && ((x11 == x15) && ((x12 == x16) && ((x13 == x17) && true))))) (
 R (.bool false) H4) (
 ∃ x18, lS H4 (x.add 3) x18 /\ (
 ∃ x19, lU H4 (aP H1 4) x19 /\ (
 (xA i x18 (fun a3 =>
 okRow H4 (a3.add (i.toNat * 1)) 1 /\ (
 letH (wrs H4 (a3.add (i.toNat * 1)) [vU x19]) (fun H5 =>
 ∃ x20, lS H5 (x.add 4) x20 /\ (
 (xA i x20 (fun a4 =>
 okRow H5 (a4.add (i.toNat * 1)) 1 /\ (
 letH (wrs H5 (a4.add (i.toNat * 1)) [.bool true]) (fun H6 =>
 I_ (i64.wrap (x1 + (1 : Int))) H6 /\ M_ (i64.wrap (x1 + (1 : Int))) H6 < M_ x1 H1))))))))))))))))))))))))))))) (
 R (.bool true) H1)
def F_29 (R : VP) (x : Addr) (a : Sl) (H : Heap) : Prop :=
 ∃ I_ : Int -> HP, ∃ M_ : Int -> HN, I_ (0 : Int) H /\ (∀ x1 : Int, ∀ H1 : Heap, I_ x1 H1 -> F_29_r1 R x a I_ M_ x1 H1)
theorem F_29_ok {R : VP} (x : Addr) (a : Sl) {H : Heap} (h : F_29 R x a H) : CallsH Tryz.prog n_29 #[.pointer (some x), vS a] H R := wpF_ok Tryz.func29 (show wpF Tryz.prog Tryz.f29 [(10, vI 0)] [] [(2, [10], [0, 8, 9])] [9] _ H R = F_29 R x a H by kernel_rfl) h
def F_30_r1 (R : VP) (x : Addr) (I_ : Int -> HP) (M_ : Int -> HN) (port : Int) (H1 : Heap) (I_1 : Int -> HP) (M_1 : Int -> HN) (classv : Int) (H3 : Heap) : Prop :=
 iteB (decide (classv < (3 : Int))) (
 CallsH Tryz.prog n_71 #[.pointer (some x), vI port, vI classv] H3 (fun v1 H4 =>
 ∃ x4 : Bool, v1 = .bool x4 /\ (
 iteB (!x4) (
 R (.bool false) H4) (
 letV (i64.wrap (classv + (1 : Int))) (fun classv1 =>
 I_1 classv1 H4 /\ M_1 classv1 H4 < M_1 classv H3))))) (
 letV (i64.wrap (port + (1 : Int))) (fun port2 =>
 I_ port2 H3 /\ M_ port2 H3 < M_ port H1))
def F_30_r2 (R : VP) (x : Addr) (I_ : Int -> HP) (M_ : Int -> HN) (port : Int) (H1 : Heap) : Prop :=
 ∃ x1, lI H1 (x.add 1) x1 /\ (
 iteB (decide (port < x1)) (
 ∃ x2, lS H1 x x2 /\ (
 CallsH Tryz.prog n_66 #[vS x2, vI port] H1 (fun v H2 =>
 ∃ x3 : Bool, v = .bool x3 /\ (
 iteB (!x3) (
 letV (i64.wrap (port + (1 : Int))) (fun port1 =>
 I_ port1 H2 /\ M_ port1 H2 < M_ port H1)) (
 ∃ I_1 : Int -> HP, ∃ M_1 : Int -> HN, I_1 (0 : Int) H2 /\ (∀ classv : Int, ∀ H3 : Heap, I_1 classv H3 -> F_30_r1 R x I_ M_ port H1 I_1 M_1 classv H3)))))) (
 R (.bool true) H1))
def F_30 (R : VP) (x : Addr) (H : Heap) : Prop :=
 ∃ I_ : Int -> HP, ∃ M_ : Int -> HN, I_ (0 : Int) H /\ (∀ port : Int, ∀ H1 : Heap, I_ port H1 -> F_30_r2 R x I_ M_ port H1)
theorem F_30_ok {R : VP} (x : Addr) {H : Heap} (h : F_30 R x H) : CallsH Tryz.prog n_30 #[.pointer (some x)] H R := wpF_ok Tryz.func30 (show wpF Tryz.prog Tryz.f30 [(3, vI 0), (4, vI 0)] [] [(2, [3], [0]), (6, [4], [0, 3])] [9] _ H R = F_30 R x H by kernel_rfl) h
def F_31_r1 (R : VP) (x : Addr) (I_ : Int -> HP) (M_ : Int -> HN) (bridge1 : Int) (H1 : Heap) (I_1 : Int -> HP) (M_1 : Int -> HN) (classv : Int) (H2 : Heap) : Prop :=
 iteB (decide (classv < (3 : Int))) (
 CallsH Tryz.prog n_71 #[.pointer (some x), vI bridge1, vI classv] H2 (fun v H3 =>
 ∃ x4 : Bool, v = .bool x4 /\ (
 iteB (!x4) (
 R (.bool false) H3) (
 letV (i64.wrap (classv + (1 : Int))) (fun classv1 =>
 I_1 classv1 H3 /\ M_1 classv1 H3 < M_1 classv H2))))) (
 letV (i64.wrap (bridge1 + (1 : Int))) (fun bridge3 =>
 I_ bridge3 H2 /\ M_ bridge3 H2 < M_ bridge1 H1))
def F_31_r2 (R : VP) (x : Addr) (I_ : Int -> HP) (M_ : Int -> HN) (bridge1 : Int) (H1 : Heap) : Prop :=
 ∃ x1, lS H1 x x1 /\ (
 iteB (decide (bridge1 < (x1.n : Int))) (
 ∃ x2, lS H1 x x2 /\ (
 (xA bridge1 x2 (fun a =>
 ∃ x3, lB H1 ((a.add (bridge1.toNat * 11)).add 4) x3 /\ (
 iteB (!x3) (
 letV (i64.wrap (bridge1 + (1 : Int))) (fun bridge2 =>
 I_ bridge2 H1 /\ M_ bridge2 H1 < M_ bridge1 H1)) (
 ∃ I_1 : Int -> HP, ∃ M_1 : Int -> HN, I_1 (0 : Int) H1 /\ (∀ classv : Int, ∀ H2 : Heap, I_1 classv H2 -> F_31_r1 R x I_ M_ bridge1 H1 I_1 M_1 classv H2))))))) (
 R (.bool true) H1))
def F_31 (R : VP) (x : Addr) (H : Heap) : Prop :=
 ∃ bridge, lI H (x.add 1) bridge /\ (
 ∃ I_ : Int -> HP, ∃ M_ : Int -> HN, I_ bridge H /\ (∀ bridge1 : Int, ∀ H1 : Heap, I_ bridge1 H1 -> F_31_r2 R x I_ M_ bridge1 H1))
theorem F_31_ok {R : VP} (x : Addr) {H : Heap} (h : F_31 R x H) : CallsH Tryz.prog n_31 #[.pointer (some x)] H R := wpF_ok Tryz.func31 (show wpF Tryz.prog Tryz.f31 [(3, vI 0), (4, vI 0)] [] [(2, [3], [0]), (6, [4], [0, 3])] [9] _ H R = F_31 R x H by kernel_rfl) h
def F_32_r1 (R : VP) (H : Heap) (x : Addr) (x1 x2 : Sl) (I_ : Int -> HP) (M_ : Int -> HN) (x3 : Int) (H2 : Heap) : Prop :=
 iteB (decide (x3 < (x2.n : Int))) (
 (xA x3 x2 (fun a =>
 ∃ x4, lI H2 (a.add (x3.toNat * 4)) x4 /\ ∃ x5, lI H2 ((a.add (x3.toNat * 4)).add 1) x5 /\ ∃ x6, lI H2 ((a.add (x3.toNat * 4)).add 2) x6 /\ ∃ x7, lI H2 ((a.add (x3.toNat * 4)).add 3) x7 /\ (
 letH (H2.push (.cells #[vO, vO, vO, vO] t_29 (0, 0))) (fun H3 =>
 okRow H3 (aZ H2) 4 /\ (
 letH (wrs H3 (aZ H2) [vI x4, vI x5, vI x6, vI x7]) (fun H4 =>
 ∃ x8, lI H4 (aZ H2) x8 /\ ∃ x9, lI H4 (aP H2 1) x9 /\ ∃ x10, lI H4 (aP H2 2) x10 /\ ∃ x11, lI H4 (aP H2 3) x11 /\ (
 ∃ x12, lS H4 (x.add 3) x12 /\ (
 (xA x3 x12 (fun a1 =>
 ∃ x13, lU H4 (a1.add (x3.toNat * 1)) x13 /\ (
 0 <= x3 /\ x3 < (((x1.n : Int).toNat : Nat) : Int) /\ (okRow H4 ((aZ H).add (x3.toNat * 5)) 5 /\ (
 letH (wrs H4 ((aZ H).add (x3.toNat * 5)) [vI x8, vI x9, vI x10, vI x11, vU x13]) (fun H5 =>
 I_ (i64.wrap (x3 + (1 : Int))) H5 /\ M_ (i64.wrap (x3 + (1 : Int))) H5 < M_ x3 H2))))))))))))))) (
 R (.slice (some (aZ H)) ((x1.n : Int).toNat) ((x1.n : Int).toNat)) H2)
def F_32 (R : VP) (x : Addr) (H : Heap) : Prop :=
 ∃ x1, lS H (x.add 2) x1 /\ (
 0 <= (x1.n : Int) /\ (x1.n : Int) <= (x1.n : Int) /\ (x1.n : Int) * ((40 : Nat) : Int) <= 281474976710656 /\ (
 letH (H.push (.cells (zeroRow (.agg #[vO, vO, vO, vO, vU (0 : Int)]) (x1.n : Int).toNat) t_32 (0, 0))) (fun H1 =>
 ∃ x2, lS H1 (x.add 2) x2 /\ (
 ∃ I_ : Int -> HP, ∃ M_ : Int -> HN, I_ (0 : Int) H1 /\ (∀ x3 : Int, ∀ H2 : Heap, I_ x3 H2 -> F_32_r1 R H x x1 x2 I_ M_ x3 H2)))))
theorem F_32_ok {R : VP} (x : Addr) {H : Heap} (h : F_32 R x H) : CallsH Tryz.prog n_32 #[.pointer (some x)] H R := wpF_ok Tryz.func32 (show wpF Tryz.prog Tryz.f32 [(17, vI 0)] [] [(3, [17], [0, 3, 15, 16])] [9] _ H R = F_32 R x H by kernel_rfl) h
def F_33_r1 (R : VP) (count : Int) (I_1 : Sl -> Int -> HP) (M_1 : Sl -> Int -> HN) (moves2 : Sl) (f : Int) (H7 : Heap) : Prop :=
 iteB (decide (f < count)) (
 letH (H7.push (.cells #[vI (3 : Int), vI f, vO, vU (0 : Int)] t_47 (0, 0))) (fun H8 =>
 runH Tryz.prog (Builtin.append_ #[t_37, t_37] t_37 #[vS moves2, .slice (some (aZ H7)) 1 1]) H8 (fun v2 H9 =>
 ∃ moves3 : Sl, v2 = vS moves3 /\ (
 letV (i64.wrap (f + (1 : Int))) (fun f1 =>
 I_1 moves3 f1 H9 /\ M_1 moves3 f1 H9 < M_1 moves2 f H7))))) (
 R (vS moves2) H7)
def F_33_r2 (R : VP) (a : Sl) (count n : Int) (I_ : Sl -> Int -> HP) (M_ : Sl -> Int -> HN) (moves : Sl) (x : Int) (H1 : Heap) : Prop :=
 iteB (decide (x < (a.n : Int))) (
 (xA x a (fun a1 =>
 ∃ x1, lI H1 (a1.add (x.toNat * 5)) x1 /\ ∃ x2, lI H1 ((a1.add (x.toNat * 5)).add 1) x2 /\ ∃ x3, lI H1 ((a1.add (x.toNat * 5)).add 2) x3 /\ ∃ x4, lI H1 ((a1.add (x.toNat * 5)).add 3) x4 /\ ∃ x5, lU H1 ((a1.add (x.toNat * 5)).add 4) x5 /\ (
 letH (H1.push (.cells #[vO, vO, vO, vO, vU (0 : Int)] t_32 (0, 0))) (fun H2 =>
 okRow H2 (aZ H1) 5 /\ (
 letH (wrs H2 (aZ H1) [vI x1, vI x2, vI x3, vI x4, vU x5]) (fun H3 =>
 ∃ x6, lI H3 (aZ H1) x6 /\ (
 iteB (decide (x6 >= n)) (
 ∃ x7, lI H3 (aZ H1) x7 /\ ∃ x8, lI H3 (aP H1 1) x8 /\ ∃ x9, lI H3 (aP H1 2) x9 /\ ∃ x10, lI H3 (aP H1 3) x10 /\ ∃ x11, lU H3 (aP H1 4) x11 /\ (
 CallsH Tryz.prog n_72 #[.agg #[vI x7, vI x8, vI x9, vI x10, vU x11]] H3 (fun v H4 =>
 ∃ x12 x13 : Int, ∃ x14 x15 : Int, v = .agg #[vI x12, vI x13, vI x14, vU x15] /\ (
 letH (H4.push (.cells #[vI x12, vI x13, vI x14, vU x15] t_47 (0, 0))) (fun H5 =>
 runH Tryz.prog (Builtin.append_ #[t_37, t_37] t_37 #[vS moves, .slice (some (aZ H4)) 1 1]) H5 (fun v1 H6 =>
 ∃ moves1 : Sl, v1 = vS moves1 /\ (
 I_ moves1 (i64.wrap (x + (1 : Int))) H6 /\ M_ moves1 (i64.wrap (x + (1 : Int))) H6 < M_ moves x H1))))))) (
 I_ moves (i64.wrap (x + (1 : Int))) H3 /\ M_ moves (i64.wrap (x + (1 : Int))) H3 < M_ moves x H1))))))))) (
 ∃ I_1 : Sl -> Int -> HP, ∃ M_1 : Sl -> Int -> HN, I_1 moves n H1 /\ (∀ moves2 : Sl, ∀ f : Int, ∀ H7 : Heap, I_1 moves2 f H7 -> F_33_r1 R count I_1 M_1 moves2 f H7))
def F_33 (R : VP) (a : Sl) (count n : Int) (H : Heap) : Prop :=
 ∃ I_ : Sl -> Int -> HP, ∃ M_ : Sl -> Int -> HN, I_ (Sl.mk none 0 0) (0 : Int) H /\ (∀ moves : Sl, ∀ x : Int, ∀ H1 : Heap, I_ moves x H1 -> F_33_r2 R a count n I_ M_ moves x H1)
theorem F_33_ok {R : VP} (a : Sl) (count n : Int) {H : Heap} (h : F_33 R a count n H) : CallsH Tryz.prog n_33 #[vS a, vI count, vI n] H R := wpF_ok Tryz.func33 (show wpF Tryz.prog Tryz.f33 [(7, vN), (10, vI 0), (13, vI 0)] [] [(3, [7, 13], [1, 2, 11, 12]), (9, [7, 10], [1])] [9] _ H R = F_33 R a count n H by kernel_rfl) h
def F_34_k1 (R : VP) (l : Sl) (H1 H7 : Heap) (x12 : Sl) (bridge : Int) (I_2 : Int -> HP) (M_2 : Int -> HN) (x24 : Int) (H16 : Heap) (free1 : Sl) (H20 : Heap) : Prop :=
 CallsH Tryz.prog n_73 #[vS l, .slice (some (aZ H7)) ((x12.n : Int).toNat) ((x12.n : Int).toNat), vI bridge, vI x24, vS free1] H20 (fun v5 H21 =>
 ∃ x36 x37 : Int, ∃ x38 x39 x40 : Int, v5 = .tuple #[.agg #[vI x36, vI x37, vU x38, vU x39], vI x40] /\ (
 letH (H21.push (.cells #[vO, vO, vU (0 : Int), vU (0 : Int)] t_39 (0, 0))) (fun H22 =>
 okRow H22 (aZ H21) 4 /\ (
 letH (wrs H22 (aZ H21) [vI x36, vI x37, vU x38, vU x39]) (fun H23 =>
 iteB (x40 != (0 : Int)) (
 ∃ x41, lI H23 (aZ H21) x41 /\ ∃ x42, lI H23 (aP H21 1) x42 /\ ∃ x43, lU H23 (aP H21 2) x43 /\ ∃ x44, lU H23 (aP H21 3) x44 /\ (
 okRow H23 (aZ H1) 4 /\ (
 letH (wrs H23 (aZ H1) [vI x41, vI x42, vU x43, vU x44]) (fun H24 =>
 ∃ r8, lI H24 (aZ H1) r8 /\ ∃ r9, lI H24 (aP H1 1) r9 /\ ∃ r10, lU H24 (aP H1 2) r10 /\ ∃ r11, lU H24 (aP H1 3) r11 /\ (
 R (.tuple #[vN, .agg #[vI r8, vI r9, vU r10, vU r11], vI x40]) H24))))) (
 I_2 (i64.wrap (x24 + (1 : Int))) H23 /\ M_2 (i64.wrap (x24 + (1 : Int))) H23 < M_2 x24 H16))))))
def F_34_r2 (R : VP) (H : Heap) (l : Sl) (H1 H7 : Heap) (x12 : Sl) (I_1 : Int -> HP) (M_1 : Int -> HN) (bridge : Int) (H14 : Heap) (I_2 : Int -> HP) (M_2 : Int -> HN) (x24 : Int) (H16 : Heap) : Prop :=
 iteB (decide (x24 < (3 : Int))) (
 ∃ J_2 : Sl -> HP, (
 iteB (decide (bridge < (0 : Int))) (
 ∃ x25, lI H16 (aZ H) x25 /\ ∃ x26, lS H16 (aP H 1) x26 /\ ∃ x27, lS H16 (aP H 2) x27 /\ ∃ x28, lS H16 (aP H 3) x28 /\ ∃ x29, lS H16 (aP H 4) x29 /\ ∃ x30, lS H16 (aP H 5) x30 /\ ∃ x31, lS H16 (aP H 6) x31 /\ ∃ x32, lS H16 (aP H 7) x32 /\ (
 CallsH Tryz.prog n_48 #[gE x25 x26 x27 x28 x29 x30 x31 x32, vI x24] H16 (fun v3 H17 =>
 ∃ free : Sl, v3 = vS free /\ (
 J_2 free H17)))) (
 CallsH Tryz.prog n_49 #[.slice (some (aZ H7)) ((x12.n : Int).toNat) ((x12.n : Int).toNat), vI bridge, vI x24] H16 (fun v4 H18 =>
 ∃ x33 x34 : Int, ∃ x35 : Bool, v4 = .tuple #[vU x33, vU x34, .bool x35] /\ (
 iteB x35 (
 letH (H18.push (.cells #[vU x33, vU x34] t_95 (0, 0))) (fun H19 =>
 J_2 (Sl.mk (some (aZ H18)) 1 1) H19)) (
 J_2 (Sl.mk none 0 0) H18))))) /\ (∀ free1 : Sl, ∀ H20 : Heap, J_2 free1 H20 -> F_34_k1 R l H1 H7 x12 bridge I_2 M_2 x24 H16 free1 H20)) (
 letV (i64.wrap (bridge + (1 : Int))) (fun bridge2 =>
 I_1 bridge2 H16 /\ M_1 bridge2 H16 < M_1 bridge H14))
def F_34_k3 (R : VP) (H : Heap) (l : Sl) (H1 H7 : Heap) (x12 : Sl) (I_1 : Int -> HP) (M_1 : Int -> HN) (bridge : Int) (H14 H15 : Heap) : Prop :=
 ∃ I_2 : Int -> HP, ∃ M_2 : Int -> HN, I_2 (0 : Int) H15 /\ (∀ x24 : Int, ∀ H16 : Heap, I_2 x24 H16 -> F_34_r2 R H l H1 H7 x12 I_1 M_1 bridge H14 I_2 M_2 x24 H16)
def F_34_r4 (R : VP) (H : Heap) (l : Sl) (H1 H7 : Heap) (x12 : Sl) (I_1 : Int -> HP) (M_1 : Int -> HN) (bridge : Int) (H14 : Heap) : Prop :=
 iteB (decide (bridge < (l.n : Int))) (
 ∃ J_1 : HP, (
 iteB (decide (bridge >= (0 : Int))) (
 (xA bridge l (fun a1 =>
 ∃ x23, lB H14 ((a1.add (bridge.toNat * 11)).add 4) x23 /\ (
 iteB (!x23) (
 letV (i64.wrap (bridge + (1 : Int))) (fun bridge1 =>
 I_1 bridge1 H14 /\ M_1 bridge1 H14 < M_1 bridge H14)) (
 J_1 H14))))) (
 J_1 H14)) /\ (∀ H15 : Heap, J_1 H15 -> F_34_k3 R H l H1 H7 x12 I_1 M_1 bridge H14 H15)) (
 okRow H14 (aZ H1) 4 /\ (
 letH (wrs H14 (aZ H1) [vO, vO, vU (0 : Int), vU (0 : Int)]) (fun H25 =>
 ∃ r12, lI H25 (aZ H1) r12 /\ ∃ r13, lI H25 (aP H1 1) r13 /\ ∃ r14, lU H25 (aP H1 2) r14 /\ ∃ r15, lU H25 (aP H1 3) r15 /\ (
 R (.tuple #[.slice (some (aZ H7)) ((x12.n : Int).toNat) ((x12.n : Int).toNat), .agg #[vI r12, vI r13, vU r14, vU r15], vO]) H25))))
def F_34_r5 (R : VP) (H : Heap) (l : Sl) (H1 H7 : Heap) (x12 : Sl) (I_ : Int -> HP) (M_ : Int -> HN) (x14 : Int) (H10 : Heap) : Prop :=
 iteB (decide (x14 < (x12.n : Int))) (
 (xA x14 x12 (fun a =>
 ∃ x15, lI H10 (a.add (x14.toNat * 4)) x15 /\ ∃ x16, lI H10 ((a.add (x14.toNat * 4)).add 1) x16 /\ ∃ x17, lI H10 ((a.add (x14.toNat * 4)).add 2) x17 /\ ∃ x18, lI H10 ((a.add (x14.toNat * 4)).add 3) x18 /\ (
 letH (H10.push (.cells #[vO, vO, vO, vO] t_29 (0, 0))) (fun H11 =>
 okRow H11 (aZ H10) 4 /\ (
 letH (wrs H11 (aZ H10) [vI x15, vI x16, vI x17, vI x18]) (fun H12 =>
 ∃ x19, lI H12 (aZ H10) x19 /\ ∃ x20, lI H12 (aP H10 1) x20 /\ ∃ x21, lI H12 (aP H10 2) x21 /\ ∃ x22, lI H12 (aP H10 3) x22 /\ (
 0 <= x14 /\ x14 < (((x12.n : Int).toNat : Nat) : Int) /\ (okRow H12 ((aZ H7).add (x14.toNat * 5)) 4 /\ (
 letH (wrs H12 ((aZ H7).add (x14.toNat * 5)) [vI x19, vI x20, vI x21, vI x22]) (fun H13 =>
 I_ (i64.wrap (x14 + (1 : Int))) H13 /\ M_ (i64.wrap (x14 + (1 : Int))) H13 < M_ x14 H10))))))))))) (
 ∃ I_1 : Int -> HP, ∃ M_1 : Int -> HN, I_1 (-1 : Int) H10 /\ (∀ bridge : Int, ∀ H14 : Heap, I_1 bridge H14 -> F_34_r4 R H l H1 H7 x12 I_1 M_1 bridge H14))
def F_34_k6 (R : VP) (H : Heap) (l : Sl) (H1 : Heap) (x10 : Bool) (H5 : Heap) : Prop :=
 iteB x10 (
 okRow H5 (aZ H1) 4 /\ (
 letH (wrs H5 (aZ H1) [vO, vO, vU (0 : Int), vU (0 : Int)]) (fun H6 =>
 ∃ r, lI H6 (aZ H1) r /\ ∃ r1, lI H6 (aP H1 1) r1 /\ ∃ r2, lU H6 (aP H1 2) r2 /\ ∃ r3, lU H6 (aP H1 3) r3 /\ (
 R (.tuple #[vN, .agg #[vI r, vI r1, vU r2, vU r3], vI (1 : Int)]) H6)))) (
 ∃ x11, lS H5 (aP H 3) x11 /\ (
 CallsH Tryz.prog n_27 #[vS l, .bool (decide ((x11.n : Int) > (0 : Int)))] H5 (fun v2 H7 =>
 ∃ x12 : Sl, ∃ x13 : Int, v2 = .tuple #[vS x12, vI x13] /\ (
 iteB (x13 != (0 : Int)) (
 okRow H7 (aZ H1) 4 /\ (
 letH (wrs H7 (aZ H1) [vO, vO, vU (0 : Int), vU (0 : Int)]) (fun H8 =>
 ∃ r4, lI H8 (aZ H1) r4 /\ ∃ r5, lI H8 (aP H1 1) r5 /\ ∃ r6, lU H8 (aP H1 2) r6 /\ ∃ r7, lU H8 (aP H1 3) r7 /\ (
 R (.tuple #[vN, .agg #[vI r4, vI r5, vU r6, vU r7], vI x13]) H8)))) (
 0 <= (x12.n : Int) /\ (x12.n : Int) <= (x12.n : Int) /\ (x12.n : Int) * ((40 : Nat) : Int) <= 281474976710656 /\ (
 letH (H7.push (.cells (zeroRow (.agg #[vO, vO, vO, vO, vU (0 : Int)]) (x12.n : Int).toNat) t_32 (0, 0))) (fun H9 =>
 ∃ I_ : Int -> HP, ∃ M_ : Int -> HN, I_ (0 : Int) H9 /\ (∀ x14 : Int, ∀ H10 : Heap, I_ x14 H10 -> F_34_r5 R H l H1 H7 x12 I_ M_ x14 H10))))))))
def F_34 (R : VP) (l : Sl) (h_0 : Int) (h_1 h_2 h_3 h_4 h_5 h_6 h_7 : Sl) (H : Heap) : Prop :=
 letH (H.push (.cells #[vI h_0, vS h_1, vS h_2, vS h_3, vS h_4, vS h_5, vS h_6, vS h_7] t_27 (0, 0))) (fun H1 =>
 letH (H1.push (.cells #[vO, vO, vU (0 : Int), vU (0 : Int)] t_39 (0, 0))) (fun H2 =>
 ∃ J_ : Bool -> HP, (
 CallsH Tryz.prog n_45 #[vS l] H2 (fun v H3 =>
 ∃ x : Bool, v = .bool x /\ (
 iteB (!x) (
 J_ true H3) (
 ∃ x1, lI H3 (aZ H) x1 /\ ∃ x2, lS H3 (aP H 1) x2 /\ ∃ x3, lS H3 (aP H 2) x3 /\ ∃ x4, lS H3 (aP H 3) x4 /\ ∃ x5, lS H3 (aP H 4) x5 /\ ∃ x6, lS H3 (aP H 5) x6 /\ ∃ x7, lS H3 (aP H 6) x7 /\ ∃ x8, lS H3 (aP H 7) x8 /\ (
 CallsH Tryz.prog n_46 #[gE x1 x2 x3 x4 x5 x6 x7 x8] H3 (fun v1 H4 =>
 ∃ x9 : Bool, v1 = .bool x9 /\ (
 J_ (!x9) H4))))))) /\ (∀ x10 : Bool, ∀ H5 : Heap, J_ x10 H5 -> F_34_k6 R H l H1 x10 H5)))
theorem F_34_ok {R : VP} (l : Sl) (h_0 : Int) (h_1 h_2 h_3 h_4 h_5 h_6 h_7 : Sl) {H : Heap} (h : F_34 R l h_0 h_1 h_2 h_3 h_4 h_5 h_6 h_7 H) : CallsH Tryz.prog n_34 #[vS l, gE h_0 h_1 h_2 h_3 h_4 h_5 h_6 h_7] H R := wpF_ok Tryz.func34 (show wpF Tryz.prog Tryz.f34 [(12, vI 0), (14, vN), (27, .bool false), (47, vI 0), (74, vI 0)] [(2, [27], [0, 3, 5]), (16, [], [0, 3, 5, 9, 12]), (25, [14], [0, 3, 5, 9, 12, 13, 74])] [(8, [47], [0, 3, 5, 9, 45, 46]), (13, [12], [0, 3, 5, 9]), (17, [74], [0, 3, 5, 9, 12])] [9] _ H R = F_34 R l h_0 h_1 h_2 h_3 h_4 h_5 h_6 h_7 H by kernel_rfl) h

end Go.Proofs.YtnhhncjflnlfaaaGreat
