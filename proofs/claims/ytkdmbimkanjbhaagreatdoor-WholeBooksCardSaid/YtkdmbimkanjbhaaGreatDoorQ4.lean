/-
  Part 4 of the proof of WholeBooks: Tab, Sq.
-/
import Derived.Test.YtkdmbimkanjbhaaGreatDoorQ3
import Derived.Test.YtkdmbimkanjbhaaGreatDoorProg
namespace Go.Proofs.YtkdmbimkanjbhaaGreatDoor.Eng
open Go Go.Proofs
theorem ap_110 : apK Tryz.prog 110 = Option.some (31, 1, 8) := by kernel_rfl
theorem ap_116 : apK Tryz.prog 116 = Option.some (25, 1, 8) := by kernel_rfl
theorem ap_126 : apK Tryz.prog 126 = Option.some (119, 1, 8) := by kernel_rfl
theorem ap_167 : apK Tryz.prog 167 = Option.some (24, 2, 32) := by kernel_rfl
theorem ap_203 : apK Tryz.prog 203 = Option.some (86, 1, 16) := by kernel_rfl
theorem ap_216 : apK Tryz.prog 216 = Option.some (28, 1, 24) := by kernel_rfl
theorem ap_22 : apK Tryz.prog 22 = Option.some (46, 5, 40) := by kernel_rfl
theorem ap_26 : apK Tryz.prog 26 = Option.some (84, 5, 64) := by kernel_rfl
theorem ap_27 : apK Tryz.prog 27 = Option.some (67, 4, 32) := by kernel_rfl
theorem ap_28 : apK Tryz.prog 28 = Option.some (65, 2, 24) := by kernel_rfl
theorem ap_35 : apK Tryz.prog 35 = Option.some (30, 7, 120) := by kernel_rfl
theorem ap_41 : apK Tryz.prog 41 = Option.some (40, 19, 176) := by kernel_rfl
theorem ap_52 : apK Tryz.prog 52 = Option.some (9, 1, 16) := by kernel_rfl
theorem ap_54 : apK Tryz.prog 54 = Option.some (5, 1, 1) := by kernel_rfl
theorem ap_91 : apK Tryz.prog 91 = Option.some (25, 1, 8) := by kernel_rfl
theorem ar_100 : arK Tryz.prog 100 = Option.some (2, 91, 1) := by kernel_rfl
theorem ar_222 : arK Tryz.prog 222 = Option.some (256, 4, 1) := by kernel_rfl
theorem ar_223 : arK Tryz.prog 223 = Option.some (256, 4, 1) := by kernel_rfl
theorem ar_242 : arK Tryz.prog 242 = Option.some (256, 5, 1) := by kernel_rfl
theorem ar_245 : arK Tryz.prog 245 = Option.some (16, 244, 2) := by kernel_rfl
theorem ar_252 : arK Tryz.prog 252 = Option.some (0, 16, 1) := by kernel_rfl
theorem ar_36 : arK Tryz.prog 36 = Option.some (10, 25, 1) := by kernel_rfl
theorem ar_37 : arK Tryz.prog 37 = Option.some (2, 4, 1) := by kernel_rfl
theorem ar_38 : arK Tryz.prog 38 = Option.some (2, 25, 1) := by kernel_rfl
theorem ar_42 : arK Tryz.prog 42 = Option.some (4, 25, 1) := by kernel_rfl
theorem bl_4 : blK Tryz.prog 4 = Bool.true := by kernel_rfl
theorem co_108 : coK Tryz.prog 108 = Bool.true := by kernel_rfl
theorem co_143 : coK Tryz.prog 143 = Bool.true := by kernel_rfl
theorem co_184 : coK Tryz.prog 184 = Bool.true := by kernel_rfl
theorem co_31 : coK Tryz.prog 31 = Bool.true := by kernel_rfl
theorem co_9 : coK Tryz.prog 9 = Bool.true := by kernel_rfl
theorem cv_21_5 : cvK Tryz.prog 21 5 = Option.some Go.IntKind.u8 := by kernel_rfl
theorem cv_230_3 : cvK Tryz.prog 230 3 = Option.some Go.IntKind.i64 := by kernel_rfl
theorem cv_25_3 : cvK Tryz.prog 25 3 = Option.some Go.IntKind.i64 := by kernel_rfl
theorem cv_3_230 : cvK Tryz.prog 3 230 = Option.some Go.IntKind.u64 := by kernel_rfl
theorem cv_3_25 : cvK Tryz.prog 3 25 = Option.some Go.IntKind.u64 := by kernel_rfl
theorem cv_3_5 : cvK Tryz.prog 3 5 = Option.some Go.IntKind.u8 := by kernel_rfl
theorem cv_5_21 : cvK Tryz.prog 5 21 = Option.some Go.IntKind.i32 := by kernel_rfl
theorem cv_5_3 : cvK Tryz.prog 5 3 = Option.some Go.IntKind.i64 := by kernel_rfl
theorem en_10 : enK Tryz.prog 10 = Bool.true := by kernel_rfl
theorem en_101 : enK Tryz.prog 101 = Bool.true := by kernel_rfl
theorem en_102 : enK Tryz.prog 102 = Bool.true := by kernel_rfl
theorem en_103 : enK Tryz.prog 103 = Bool.true := by kernel_rfl
theorem en_104 : enK Tryz.prog 104 = Bool.true := by kernel_rfl
theorem en_105 : enK Tryz.prog 105 = Bool.true := by kernel_rfl
theorem en_106 : enK Tryz.prog 106 = Bool.true := by kernel_rfl
theorem en_107 : enK Tryz.prog 107 = Bool.true := by kernel_rfl
theorem en_108 : enK Tryz.prog 108 = Bool.true := by kernel_rfl
theorem en_109 : enK Tryz.prog 109 = Bool.true := by kernel_rfl
theorem en_11 : enK Tryz.prog 11 = Bool.true := by kernel_rfl
theorem en_110 : enK Tryz.prog 110 = Bool.true := by kernel_rfl
theorem en_111 : enK Tryz.prog 111 = Bool.true := by kernel_rfl
theorem en_112 : enK Tryz.prog 112 = Bool.true := by kernel_rfl
theorem en_113 : enK Tryz.prog 113 = Bool.true := by kernel_rfl
theorem en_114 : enK Tryz.prog 114 = Bool.true := by kernel_rfl
theorem en_115 : enK Tryz.prog 115 = Bool.true := by kernel_rfl
theorem en_116 : enK Tryz.prog 116 = Bool.true := by kernel_rfl
theorem en_117 : enK Tryz.prog 117 = Bool.true := by kernel_rfl
theorem en_118 : enK Tryz.prog 118 = Bool.true := by kernel_rfl
theorem en_119 : enK Tryz.prog 119 = Bool.true := by kernel_rfl
theorem en_12 : enK Tryz.prog 12 = Bool.true := by kernel_rfl
theorem en_120 : enK Tryz.prog 120 = Bool.true := by kernel_rfl
theorem en_121 : enK Tryz.prog 121 = Bool.true := by kernel_rfl
theorem en_122 : enK Tryz.prog 122 = Bool.true := by kernel_rfl
theorem en_123 : enK Tryz.prog 123 = Bool.true := by kernel_rfl
theorem en_124 : enK Tryz.prog 124 = Bool.true := by kernel_rfl
theorem en_126 : enK Tryz.prog 126 = Bool.true := by kernel_rfl
theorem en_128 : enK Tryz.prog 128 = Bool.true := by kernel_rfl
theorem en_129 : enK Tryz.prog 129 = Bool.true := by kernel_rfl
theorem en_13 : enK Tryz.prog 13 = Bool.true := by kernel_rfl
theorem en_130 : enK Tryz.prog 130 = Bool.true := by kernel_rfl
theorem en_131 : enK Tryz.prog 131 = Bool.true := by kernel_rfl
theorem en_132 : enK Tryz.prog 132 = Bool.true := by kernel_rfl
theorem en_133 : enK Tryz.prog 133 = Bool.true := by kernel_rfl
theorem en_134 : enK Tryz.prog 134 = Bool.true := by kernel_rfl
theorem en_135 : enK Tryz.prog 135 = Bool.true := by kernel_rfl
theorem en_136 : enK Tryz.prog 136 = Bool.true := by kernel_rfl
theorem en_137 : enK Tryz.prog 137 = Bool.true := by kernel_rfl
theorem en_138 : enK Tryz.prog 138 = Bool.true := by kernel_rfl
theorem en_139 : enK Tryz.prog 139 = Bool.true := by kernel_rfl
theorem en_14 : enK Tryz.prog 14 = Bool.true := by kernel_rfl
theorem en_140 : enK Tryz.prog 140 = Bool.true := by kernel_rfl
theorem en_141 : enK Tryz.prog 141 = Bool.true := by kernel_rfl
theorem en_142 : enK Tryz.prog 142 = Bool.true := by kernel_rfl
theorem en_143 : enK Tryz.prog 143 = Bool.true := by kernel_rfl
theorem en_145 : enK Tryz.prog 145 = Bool.true := by kernel_rfl
theorem en_15 : enK Tryz.prog 15 = Bool.true := by kernel_rfl
theorem en_16 : enK Tryz.prog 16 = Bool.true := by kernel_rfl
theorem en_17 : enK Tryz.prog 17 = Bool.true := by kernel_rfl
theorem en_170 : enK Tryz.prog 170 = Bool.true := by kernel_rfl
theorem en_18 : enK Tryz.prog 18 = Bool.true := by kernel_rfl
theorem en_19 : enK Tryz.prog 19 = Bool.true := by kernel_rfl
theorem en_20 : enK Tryz.prog 20 = Bool.true := by kernel_rfl
theorem en_21 : enK Tryz.prog 21 = Bool.true := by kernel_rfl
theorem en_22 : enK Tryz.prog 22 = Bool.true := by kernel_rfl
theorem en_23 : enK Tryz.prog 23 = Bool.true := by kernel_rfl
theorem en_24 : enK Tryz.prog 24 = Bool.true := by kernel_rfl
theorem en_25 : enK Tryz.prog 25 = Bool.true := by kernel_rfl
theorem en_26 : enK Tryz.prog 26 = Bool.true := by kernel_rfl
theorem en_27 : enK Tryz.prog 27 = Bool.true := by kernel_rfl
theorem en_28 : enK Tryz.prog 28 = Bool.true := by kernel_rfl
theorem en_29 : enK Tryz.prog 29 = Bool.true := by kernel_rfl
theorem en_3 : enK Tryz.prog 3 = Bool.true := by kernel_rfl
theorem en_30 : enK Tryz.prog 30 = Bool.true := by kernel_rfl
theorem en_31 : enK Tryz.prog 31 = Bool.true := by kernel_rfl
theorem en_32 : enK Tryz.prog 32 = Bool.true := by kernel_rfl
theorem en_33 : enK Tryz.prog 33 = Bool.true := by kernel_rfl
theorem en_34 : enK Tryz.prog 34 = Bool.true := by kernel_rfl
theorem en_35 : enK Tryz.prog 35 = Bool.true := by kernel_rfl
theorem en_36 : enK Tryz.prog 36 = Bool.true := by kernel_rfl
theorem en_37 : enK Tryz.prog 37 = Bool.true := by kernel_rfl
theorem en_38 : enK Tryz.prog 38 = Bool.true := by kernel_rfl
theorem en_39 : enK Tryz.prog 39 = Bool.true := by kernel_rfl
theorem en_4 : enK Tryz.prog 4 = Bool.true := by kernel_rfl
theorem en_40 : enK Tryz.prog 40 = Bool.true := by kernel_rfl
theorem en_41 : enK Tryz.prog 41 = Bool.true := by kernel_rfl
theorem en_42 : enK Tryz.prog 42 = Bool.true := by kernel_rfl
theorem en_43 : enK Tryz.prog 43 = Bool.true := by kernel_rfl
theorem en_44 : enK Tryz.prog 44 = Bool.true := by kernel_rfl
theorem en_45 : enK Tryz.prog 45 = Bool.true := by kernel_rfl
theorem en_46 : enK Tryz.prog 46 = Bool.true := by kernel_rfl
theorem en_47 : enK Tryz.prog 47 = Bool.true := by kernel_rfl
theorem en_48 : enK Tryz.prog 48 = Bool.true := by kernel_rfl
theorem en_49 : enK Tryz.prog 49 = Bool.true := by kernel_rfl
theorem en_5 : enK Tryz.prog 5 = Bool.true := by kernel_rfl
theorem en_50 : enK Tryz.prog 50 = Bool.true := by kernel_rfl
theorem en_51 : enK Tryz.prog 51 = Bool.true := by kernel_rfl
theorem en_52 : enK Tryz.prog 52 = Bool.true := by kernel_rfl
theorem en_53 : enK Tryz.prog 53 = Bool.true := by kernel_rfl
theorem en_54 : enK Tryz.prog 54 = Bool.true := by kernel_rfl
theorem en_55 : enK Tryz.prog 55 = Bool.true := by kernel_rfl
theorem en_56 : enK Tryz.prog 56 = Bool.true := by kernel_rfl
theorem en_57 : enK Tryz.prog 57 = Bool.true := by kernel_rfl
theorem en_58 : enK Tryz.prog 58 = Bool.true := by kernel_rfl
theorem en_59 : enK Tryz.prog 59 = Bool.true := by kernel_rfl
theorem en_6 : enK Tryz.prog 6 = Bool.true := by kernel_rfl
theorem en_60 : enK Tryz.prog 60 = Bool.true := by kernel_rfl
theorem en_61 : enK Tryz.prog 61 = Bool.true := by kernel_rfl
theorem en_62 : enK Tryz.prog 62 = Bool.true := by kernel_rfl
theorem en_63 : enK Tryz.prog 63 = Bool.true := by kernel_rfl
theorem en_64 : enK Tryz.prog 64 = Bool.true := by kernel_rfl
theorem en_65 : enK Tryz.prog 65 = Bool.true := by kernel_rfl
theorem en_66 : enK Tryz.prog 66 = Bool.true := by kernel_rfl
theorem en_67 : enK Tryz.prog 67 = Bool.true := by kernel_rfl
theorem en_68 : enK Tryz.prog 68 = Bool.true := by kernel_rfl
theorem en_69 : enK Tryz.prog 69 = Bool.true := by kernel_rfl
theorem en_7 : enK Tryz.prog 7 = Bool.true := by kernel_rfl
theorem en_70 : enK Tryz.prog 70 = Bool.true := by kernel_rfl
theorem en_71 : enK Tryz.prog 71 = Bool.true := by kernel_rfl
theorem en_72 : enK Tryz.prog 72 = Bool.true := by kernel_rfl
theorem en_73 : enK Tryz.prog 73 = Bool.true := by kernel_rfl
theorem en_74 : enK Tryz.prog 74 = Bool.true := by kernel_rfl
theorem en_75 : enK Tryz.prog 75 = Bool.true := by kernel_rfl
theorem en_79 : enK Tryz.prog 79 = Bool.true := by kernel_rfl
theorem en_8 : enK Tryz.prog 8 = Bool.true := by kernel_rfl
theorem en_81 : enK Tryz.prog 81 = Bool.true := by kernel_rfl
theorem en_82 : enK Tryz.prog 82 = Bool.true := by kernel_rfl
theorem en_83 : enK Tryz.prog 83 = Bool.true := by kernel_rfl
theorem en_84 : enK Tryz.prog 84 = Bool.true := by kernel_rfl
theorem en_85 : enK Tryz.prog 85 = Bool.true := by kernel_rfl
theorem en_86 : enK Tryz.prog 86 = Bool.true := by kernel_rfl
theorem en_87 : enK Tryz.prog 87 = Bool.true := by kernel_rfl
theorem en_88 : enK Tryz.prog 88 = Bool.true := by kernel_rfl
theorem en_89 : enK Tryz.prog 89 = Bool.true := by kernel_rfl
theorem en_9 : enK Tryz.prog 9 = Bool.true := by kernel_rfl
theorem en_90 : enK Tryz.prog 90 = Bool.true := by kernel_rfl
theorem en_91 : enK Tryz.prog 91 = Bool.true := by kernel_rfl
theorem en_92 : enK Tryz.prog 92 = Bool.true := by kernel_rfl
theorem en_93 : enK Tryz.prog 93 = Bool.true := by kernel_rfl
theorem en_94 : enK Tryz.prog 94 = Bool.true := by kernel_rfl
theorem en_95 : enK Tryz.prog 95 = Bool.true := by kernel_rfl
theorem en_96 : enK Tryz.prog 96 = Bool.true := by kernel_rfl
theorem en_97 : enK Tryz.prog 97 = Bool.true := by kernel_rfl
theorem en_98 : enK Tryz.prog 98 = Bool.true := by kernel_rfl
theorem fo_170_0 : fldK Tryz.prog 170 0 = Option.some 0 := by kernel_rfl
theorem fo_170_1 : fldK Tryz.prog 170 1 = Option.some 1 := by kernel_rfl
theorem fo_186_1 : fldK Tryz.prog 186 1 = Option.some 1 := by kernel_rfl
theorem fo_244_0 : fldK Tryz.prog 244 0 = Option.some 0 := by kernel_rfl
theorem fo_244_1 : fldK Tryz.prog 244 1 = Option.some 1 := by kernel_rfl
theorem fo_24_0 : fldK Tryz.prog 24 0 = Option.some 0 := by kernel_rfl
theorem fo_24_1 : fldK Tryz.prog 24 1 = Option.some 1 := by kernel_rfl
theorem fo_30_0 : fldK Tryz.prog 30 0 = Option.some 0 := by kernel_rfl
theorem fo_30_1 : fldK Tryz.prog 30 1 = Option.some 2 := by kernel_rfl
theorem fo_30_2 : fldK Tryz.prog 30 2 = Option.some 3 := by kernel_rfl
theorem fo_30_3 : fldK Tryz.prog 30 3 = Option.some 4 := by kernel_rfl
theorem fo_30_4 : fldK Tryz.prog 30 4 = Option.some 5 := by kernel_rfl
theorem fo_30_5 : fldK Tryz.prog 30 5 = Option.some 6 := by kernel_rfl
theorem fo_40_0 : fldK Tryz.prog 40 0 = Option.some 0 := by kernel_rfl
theorem fo_40_1 : fldK Tryz.prog 40 1 = Option.some 1 := by kernel_rfl
theorem fo_40_2 : fldK Tryz.prog 40 2 = Option.some 2 := by kernel_rfl
theorem fo_40_3 : fldK Tryz.prog 40 3 = Option.some 3 := by kernel_rfl
theorem fo_40_4 : fldK Tryz.prog 40 4 = Option.some 4 := by kernel_rfl
theorem fo_40_5 : fldK Tryz.prog 40 5 = Option.some 5 := by kernel_rfl
theorem fo_40_6 : fldK Tryz.prog 40 6 = Option.some 15 := by kernel_rfl
theorem fo_40_7 : fldK Tryz.prog 40 7 = Option.some 17 := by kernel_rfl
theorem fo_44_0 : fldK Tryz.prog 44 0 = Option.some 0 := by kernel_rfl
theorem fo_44_1 : fldK Tryz.prog 44 1 = Option.some 1 := by kernel_rfl
theorem fo_44_2 : fldK Tryz.prog 44 2 = Option.some 2 := by kernel_rfl
theorem fo_46_0 : fldK Tryz.prog 46 0 = Option.some 0 := by kernel_rfl
theorem fo_46_1 : fldK Tryz.prog 46 1 = Option.some 1 := by kernel_rfl
theorem fo_46_2 : fldK Tryz.prog 46 2 = Option.some 2 := by kernel_rfl
theorem fo_46_3 : fldK Tryz.prog 46 3 = Option.some 3 := by kernel_rfl
theorem fo_46_4 : fldK Tryz.prog 46 4 = Option.some 4 := by kernel_rfl
theorem fo_57_0 : fldK Tryz.prog 57 0 = Option.some 0 := by kernel_rfl
theorem fo_57_1 : fldK Tryz.prog 57 1 = Option.some 1 := by kernel_rfl
theorem fo_57_2 : fldK Tryz.prog 57 2 = Option.some 2 := by kernel_rfl
theorem fo_57_3 : fldK Tryz.prog 57 3 = Option.some 3 := by kernel_rfl
theorem fo_57_4 : fldK Tryz.prog 57 4 = Option.some 4 := by kernel_rfl
theorem fo_57_5 : fldK Tryz.prog 57 5 = Option.some 5 := by kernel_rfl
theorem fo_57_6 : fldK Tryz.prog 57 6 = Option.some 6 := by kernel_rfl
theorem fo_57_7 : fldK Tryz.prog 57 7 = Option.some 7 := by kernel_rfl
theorem fo_57_8 : fldK Tryz.prog 57 8 = Option.some 8 := by kernel_rfl
theorem fo_57_9 : fldK Tryz.prog 57 9 = Option.some 9 := by kernel_rfl
theorem fo_65_0 : fldK Tryz.prog 65 0 = Option.some 0 := by kernel_rfl
theorem fo_65_1 : fldK Tryz.prog 65 1 = Option.some 1 := by kernel_rfl
theorem fo_67_0 : fldK Tryz.prog 67 0 = Option.some 0 := by kernel_rfl
theorem fo_67_1 : fldK Tryz.prog 67 1 = Option.some 1 := by kernel_rfl
theorem fo_67_2 : fldK Tryz.prog 67 2 = Option.some 2 := by kernel_rfl
theorem fo_67_3 : fldK Tryz.prog 67 3 = Option.some 3 := by kernel_rfl
theorem fo_77_0 : fldK Tryz.prog 77 0 = Option.some 0 := by kernel_rfl
theorem fo_77_1 : fldK Tryz.prog 77 1 = Option.some 1 := by kernel_rfl
theorem fo_77_2 : fldK Tryz.prog 77 2 = Option.some 2 := by kernel_rfl
theorem fo_77_3 : fldK Tryz.prog 77 3 = Option.some 3 := by kernel_rfl
theorem fo_84_0 : fldK Tryz.prog 84 0 = Option.some 0 := by kernel_rfl
theorem fo_84_1 : fldK Tryz.prog 84 1 = Option.some 1 := by kernel_rfl
theorem fo_84_2 : fldK Tryz.prog 84 2 = Option.some 2 := by kernel_rfl
theorem fo_84_3 : fldK Tryz.prog 84 3 = Option.some 3 := by kernel_rfl
theorem fo_84_4 : fldK Tryz.prog 84 4 = Option.some 4 := by kernel_rfl
theorem if_20 : ifK Tryz.prog 20 = Bool.true := by kernel_rfl
theorem if_86 : ifK Tryz.prog 86 = Bool.true := by kernel_rfl
theorem ld_10 : ldK Tryz.prog 10 = Option.some Option.none := by kernel_rfl
theorem ld_100 : ldK Tryz.prog 100 = Option.some (Option.some 2) := by kernel_rfl
theorem ld_108 : ldK Tryz.prog 108 = Option.some Option.none := by kernel_rfl
theorem ld_11 : ldK Tryz.prog 11 = Option.some Option.none := by kernel_rfl
theorem ld_110 : ldK Tryz.prog 110 = Option.some Option.none := by kernel_rfl
theorem ld_116 : ldK Tryz.prog 116 = Option.some Option.none := by kernel_rfl
theorem ld_12 : ldK Tryz.prog 12 = Option.some Option.none := by kernel_rfl
theorem ld_126 : ldK Tryz.prog 126 = Option.some Option.none := by kernel_rfl
theorem ld_13 : ldK Tryz.prog 13 = Option.some (Option.some 2) := by kernel_rfl
theorem ld_134 : ldK Tryz.prog 134 = Option.some Option.none := by kernel_rfl
theorem ld_14 : ldK Tryz.prog 14 = Option.some (Option.some 2) := by kernel_rfl
theorem ld_142 : ldK Tryz.prog 142 = Option.some (Option.some 0) := by kernel_rfl
theorem ld_143 : ldK Tryz.prog 143 = Option.some (Option.some 0) := by kernel_rfl
theorem ld_15 : ldK Tryz.prog 15 = Option.some Option.none := by kernel_rfl
theorem ld_153 : ldK Tryz.prog 153 = Option.some Option.none := by kernel_rfl
theorem ld_154 : ldK Tryz.prog 154 = Option.some (Option.some 3) := by kernel_rfl
theorem ld_155 : ldK Tryz.prog 155 = Option.some (Option.some 3) := by kernel_rfl
theorem ld_157 : ldK Tryz.prog 157 = Option.some Option.none := by kernel_rfl
theorem ld_158 : ldK Tryz.prog 158 = Option.some Option.none := by kernel_rfl
theorem ld_16 : ldK Tryz.prog 16 = Option.some Option.none := by kernel_rfl
theorem ld_160 : ldK Tryz.prog 160 = Option.some Option.none := by kernel_rfl
theorem ld_167 : ldK Tryz.prog 167 = Option.some Option.none := by kernel_rfl
theorem ld_168 : ldK Tryz.prog 168 = Option.some Option.none := by kernel_rfl
theorem ld_169 : ldK Tryz.prog 169 = Option.some (Option.some 2) := by kernel_rfl
theorem ld_17 : ldK Tryz.prog 17 = Option.some Option.none := by kernel_rfl
theorem ld_170 : ldK Tryz.prog 170 = Option.some (Option.some 2) := by kernel_rfl
theorem ld_18 : ldK Tryz.prog 18 = Option.some (Option.some 1) := by kernel_rfl
theorem ld_180 : ldK Tryz.prog 180 = Option.some Option.none := by kernel_rfl
theorem ld_184 : ldK Tryz.prog 184 = Option.some Option.none := by kernel_rfl
theorem ld_185 : ldK Tryz.prog 185 = Option.some (Option.some 2) := by kernel_rfl
theorem ld_186 : ldK Tryz.prog 186 = Option.some (Option.some 2) := by kernel_rfl
theorem ld_19 : ldK Tryz.prog 19 = Option.some (Option.some 1) := by kernel_rfl
theorem ld_192 : ldK Tryz.prog 192 = Option.some (Option.some 1) := by kernel_rfl
theorem ld_193 : ldK Tryz.prog 193 = Option.some (Option.some 1) := by kernel_rfl
theorem ld_194 : ldK Tryz.prog 194 = Option.some Option.none := by kernel_rfl
theorem ld_197 : ldK Tryz.prog 197 = Option.some Option.none := by kernel_rfl
theorem ld_2 : ldK Tryz.prog 2 = Option.some Option.none := by kernel_rfl
theorem ld_20 : ldK Tryz.prog 20 = Option.some Option.none := by kernel_rfl
theorem ld_200 : ldK Tryz.prog 200 = Option.some Option.none := by kernel_rfl
theorem ld_202 : ldK Tryz.prog 202 = Option.some Option.none := by kernel_rfl
theorem ld_203 : ldK Tryz.prog 203 = Option.some Option.none := by kernel_rfl
theorem ld_205 : ldK Tryz.prog 205 = Option.some Option.none := by kernel_rfl
theorem ld_21 : ldK Tryz.prog 21 = Option.some Option.none := by kernel_rfl
theorem ld_216 : ldK Tryz.prog 216 = Option.some Option.none := by kernel_rfl
theorem ld_22 : ldK Tryz.prog 22 = Option.some Option.none := by kernel_rfl
theorem ld_222 : ldK Tryz.prog 222 = Option.some (Option.some 256) := by kernel_rfl
theorem ld_223 : ldK Tryz.prog 223 = Option.some (Option.some 256) := by kernel_rfl
theorem ld_227 : ldK Tryz.prog 227 = Option.some Option.none := by kernel_rfl
theorem ld_23 : ldK Tryz.prog 23 = Option.some (Option.some 2) := by kernel_rfl
theorem ld_230 : ldK Tryz.prog 230 = Option.some Option.none := by kernel_rfl
theorem ld_24 : ldK Tryz.prog 24 = Option.some (Option.some 2) := by kernel_rfl
theorem ld_242 : ldK Tryz.prog 242 = Option.some (Option.some 256) := by kernel_rfl
theorem ld_243 : ldK Tryz.prog 243 = Option.some (Option.some 2) := by kernel_rfl
theorem ld_244 : ldK Tryz.prog 244 = Option.some (Option.some 2) := by kernel_rfl
theorem ld_245 : ldK Tryz.prog 245 = Option.some (Option.some 32) := by kernel_rfl
theorem ld_25 : ldK Tryz.prog 25 = Option.some Option.none := by kernel_rfl
theorem ld_250 : ldK Tryz.prog 250 = Option.some (Option.some 4) := by kernel_rfl
theorem ld_251 : ldK Tryz.prog 251 = Option.some (Option.some 4) := by kernel_rfl
theorem ld_252 : ldK Tryz.prog 252 = Option.some (Option.some 0) := by kernel_rfl
theorem ld_253 : ldK Tryz.prog 253 = Option.some (Option.some 0) := by kernel_rfl
theorem ld_254 : ldK Tryz.prog 254 = Option.some (Option.some 0) := by kernel_rfl
theorem ld_257 : ldK Tryz.prog 257 = Option.some Option.none := by kernel_rfl
theorem ld_258 : ldK Tryz.prog 258 = Option.some Option.none := by kernel_rfl
theorem ld_26 : ldK Tryz.prog 26 = Option.some Option.none := by kernel_rfl
theorem ld_27 : ldK Tryz.prog 27 = Option.some Option.none := by kernel_rfl
theorem ld_28 : ldK Tryz.prog 28 = Option.some Option.none := by kernel_rfl
theorem ld_29 : ldK Tryz.prog 29 = Option.some (Option.some 7) := by kernel_rfl
theorem ld_3 : ldK Tryz.prog 3 = Option.some Option.none := by kernel_rfl
theorem ld_30 : ldK Tryz.prog 30 = Option.some (Option.some 7) := by kernel_rfl
theorem ld_31 : ldK Tryz.prog 31 = Option.some Option.none := by kernel_rfl
theorem ld_34 : ldK Tryz.prog 34 = Option.some Option.none := by kernel_rfl
theorem ld_35 : ldK Tryz.prog 35 = Option.some Option.none := by kernel_rfl
theorem ld_36 : ldK Tryz.prog 36 = Option.some (Option.some 10) := by kernel_rfl
theorem ld_37 : ldK Tryz.prog 37 = Option.some (Option.some 2) := by kernel_rfl
theorem ld_38 : ldK Tryz.prog 38 = Option.some (Option.some 2) := by kernel_rfl
theorem ld_39 : ldK Tryz.prog 39 = Option.some (Option.some 19) := by kernel_rfl
theorem ld_4 : ldK Tryz.prog 4 = Option.some Option.none := by kernel_rfl
theorem ld_40 : ldK Tryz.prog 40 = Option.some (Option.some 19) := by kernel_rfl
theorem ld_41 : ldK Tryz.prog 41 = Option.some Option.none := by kernel_rfl
theorem ld_42 : ldK Tryz.prog 42 = Option.some (Option.some 4) := by kernel_rfl
theorem ld_43 : ldK Tryz.prog 43 = Option.some (Option.some 6) := by kernel_rfl
theorem ld_44 : ldK Tryz.prog 44 = Option.some (Option.some 6) := by kernel_rfl
theorem ld_45 : ldK Tryz.prog 45 = Option.some (Option.some 5) := by kernel_rfl
theorem ld_46 : ldK Tryz.prog 46 = Option.some (Option.some 5) := by kernel_rfl
theorem ld_5 : ldK Tryz.prog 5 = Option.some Option.none := by kernel_rfl
theorem ld_52 : ldK Tryz.prog 52 = Option.some Option.none := by kernel_rfl
theorem ld_54 : ldK Tryz.prog 54 = Option.some Option.none := by kernel_rfl
theorem ld_55 : ldK Tryz.prog 55 = Option.some Option.none := by kernel_rfl
theorem ld_56 : ldK Tryz.prog 56 = Option.some (Option.some 10) := by kernel_rfl
theorem ld_57 : ldK Tryz.prog 57 = Option.some (Option.some 10) := by kernel_rfl
theorem ld_6 : ldK Tryz.prog 6 = Option.some Option.none := by kernel_rfl
theorem ld_64 : ldK Tryz.prog 64 = Option.some (Option.some 2) := by kernel_rfl
theorem ld_65 : ldK Tryz.prog 65 = Option.some (Option.some 2) := by kernel_rfl
theorem ld_66 : ldK Tryz.prog 66 = Option.some (Option.some 4) := by kernel_rfl
theorem ld_67 : ldK Tryz.prog 67 = Option.some (Option.some 4) := by kernel_rfl
theorem ld_7 : ldK Tryz.prog 7 = Option.some (Option.some 4) := by kernel_rfl
theorem ld_76 : ldK Tryz.prog 76 = Option.some (Option.some 4) := by kernel_rfl
theorem ld_77 : ldK Tryz.prog 77 = Option.some (Option.some 4) := by kernel_rfl
theorem ld_8 : ldK Tryz.prog 8 = Option.some (Option.some 4) := by kernel_rfl
theorem ld_83 : ldK Tryz.prog 83 = Option.some (Option.some 5) := by kernel_rfl
theorem ld_84 : ldK Tryz.prog 84 = Option.some (Option.some 5) := by kernel_rfl
theorem ld_85 : ldK Tryz.prog 85 = Option.some Option.none := by kernel_rfl
theorem ld_86 : ldK Tryz.prog 86 = Option.some Option.none := by kernel_rfl
theorem ld_9 : ldK Tryz.prog 9 = Option.some Option.none := by kernel_rfl
theorem ld_91 : ldK Tryz.prog 91 = Option.some Option.none := by kernel_rfl
theorem pl_143 : plK Tryz.prog 143 = Option.some [] := by kernel_rfl
theorem pl_170 : plK Tryz.prog 170 = Option.some [(0, 1), (1, 1)] := by kernel_rfl
theorem pl_186 : plK Tryz.prog 186 = Option.some [(0, 1), (1, 1)] := by kernel_rfl
theorem pl_24 : plK Tryz.prog 24 = Option.some [(0, 1), (1, 1)] := by kernel_rfl
theorem pl_30 : plK Tryz.prog 30 = Option.some [(0, 2), (2, 1), (3, 1), (4, 1), (5, 1), (6, 1)] := by kernel_rfl
theorem pl_40 : plK Tryz.prog 40 = Option.some [(0, 1), (1, 1), (2, 1), (3, 1), (4, 1), (5, 10), (15, 2), (17, 2)] := by kernel_rfl
theorem pl_44 : plK Tryz.prog 44 = Option.some [(0, 1), (1, 1), (2, 4)] := by kernel_rfl
theorem pl_46 : plK Tryz.prog 46 = Option.some [(0, 1), (1, 1), (2, 1), (3, 1), (4, 1)] := by kernel_rfl
theorem pl_57 : plK Tryz.prog 57 = Option.some [(0, 1), (1, 1), (2, 1), (3, 1), (4, 1), (5, 1), (6, 1), (7, 1), (8, 1), (9, 1)] := by kernel_rfl
theorem pl_65 : plK Tryz.prog 65 = Option.some [(0, 1), (1, 1)] := by kernel_rfl
theorem pl_67 : plK Tryz.prog 67 = Option.some [(0, 1), (1, 1), (2, 1), (3, 1)] := by kernel_rfl
theorem pl_77 : plK Tryz.prog 77 = Option.some [(0, 1), (1, 1), (2, 1), (3, 1)] := by kernel_rfl
theorem pl_84 : plK Tryz.prog 84 = Option.some [(0, 1), (1, 1), (2, 1), (3, 1), (4, 1)] := by kernel_rfl
theorem sl_110 : slK Tryz.prog 110 = Option.some (31, 1) := by kernel_rfl
theorem sl_116 : slK Tryz.prog 116 = Option.some (25, 1) := by kernel_rfl
theorem sl_126 : slK Tryz.prog 126 = Option.some (119, 1) := by kernel_rfl
theorem sl_167 : slK Tryz.prog 167 = Option.some (24, 2) := by kernel_rfl
theorem sl_203 : slK Tryz.prog 203 = Option.some (86, 1) := by kernel_rfl
theorem sl_216 : slK Tryz.prog 216 = Option.some (28, 1) := by kernel_rfl
theorem sl_22 : slK Tryz.prog 22 = Option.some (46, 5) := by kernel_rfl
theorem sl_26 : slK Tryz.prog 26 = Option.some (84, 5) := by kernel_rfl
theorem sl_27 : slK Tryz.prog 27 = Option.some (67, 4) := by kernel_rfl
theorem sl_28 : slK Tryz.prog 28 = Option.some (65, 2) := by kernel_rfl
theorem sl_35 : slK Tryz.prog 35 = Option.some (30, 7) := by kernel_rfl
theorem sl_41 : slK Tryz.prog 41 = Option.some (40, 19) := by kernel_rfl
theorem sl_52 : slK Tryz.prog 52 = Option.some (9, 1) := by kernel_rfl
theorem sl_54 : slK Tryz.prog 54 = Option.some (5, 1) := by kernel_rfl
theorem sl_91 : slK Tryz.prog 91 = Option.some (25, 1) := by kernel_rfl
theorem st_10 : stK Tryz.prog 10 = Bool.true := by kernel_rfl
theorem st_11 : stK Tryz.prog 11 = Bool.true := by kernel_rfl
theorem st_9 : stK Tryz.prog 9 = Bool.true := by kernel_rfl
theorem sz_10 : szK Tryz.prog 10 = Option.some 1 := by kernel_rfl
theorem sz_100 : szK Tryz.prog 100 = Option.some 2 := by kernel_rfl
theorem sz_108 : szK Tryz.prog 108 = Option.some 1 := by kernel_rfl
theorem sz_11 : szK Tryz.prog 11 = Option.some 1 := by kernel_rfl
theorem sz_110 : szK Tryz.prog 110 = Option.some 1 := by kernel_rfl
theorem sz_116 : szK Tryz.prog 116 = Option.some 1 := by kernel_rfl
theorem sz_12 : szK Tryz.prog 12 = Option.some 1 := by kernel_rfl
theorem sz_126 : szK Tryz.prog 126 = Option.some 1 := by kernel_rfl
theorem sz_13 : szK Tryz.prog 13 = Option.some 2 := by kernel_rfl
theorem sz_134 : szK Tryz.prog 134 = Option.some 1 := by kernel_rfl
theorem sz_14 : szK Tryz.prog 14 = Option.some 2 := by kernel_rfl
theorem sz_142 : szK Tryz.prog 142 = Option.some 0 := by kernel_rfl
theorem sz_143 : szK Tryz.prog 143 = Option.some 0 := by kernel_rfl
theorem sz_15 : szK Tryz.prog 15 = Option.some 1 := by kernel_rfl
theorem sz_153 : szK Tryz.prog 153 = Option.some 1 := by kernel_rfl
theorem sz_154 : szK Tryz.prog 154 = Option.some 3 := by kernel_rfl
theorem sz_155 : szK Tryz.prog 155 = Option.some 3 := by kernel_rfl
theorem sz_157 : szK Tryz.prog 157 = Option.some 1 := by kernel_rfl
theorem sz_158 : szK Tryz.prog 158 = Option.some 1 := by kernel_rfl
theorem sz_16 : szK Tryz.prog 16 = Option.some 1 := by kernel_rfl
theorem sz_160 : szK Tryz.prog 160 = Option.some 1 := by kernel_rfl
theorem sz_167 : szK Tryz.prog 167 = Option.some 1 := by kernel_rfl
theorem sz_168 : szK Tryz.prog 168 = Option.some 1 := by kernel_rfl
theorem sz_169 : szK Tryz.prog 169 = Option.some 2 := by kernel_rfl
theorem sz_17 : szK Tryz.prog 17 = Option.some 1 := by kernel_rfl
theorem sz_170 : szK Tryz.prog 170 = Option.some 2 := by kernel_rfl
theorem sz_18 : szK Tryz.prog 18 = Option.some 1 := by kernel_rfl
theorem sz_180 : szK Tryz.prog 180 = Option.some 1 := by kernel_rfl
theorem sz_184 : szK Tryz.prog 184 = Option.some 1 := by kernel_rfl
theorem sz_185 : szK Tryz.prog 185 = Option.some 2 := by kernel_rfl
theorem sz_186 : szK Tryz.prog 186 = Option.some 2 := by kernel_rfl
theorem sz_19 : szK Tryz.prog 19 = Option.some 1 := by kernel_rfl
theorem sz_192 : szK Tryz.prog 192 = Option.some 1 := by kernel_rfl
theorem sz_193 : szK Tryz.prog 193 = Option.some 1 := by kernel_rfl
theorem sz_194 : szK Tryz.prog 194 = Option.some 1 := by kernel_rfl
theorem sz_197 : szK Tryz.prog 197 = Option.some 1 := by kernel_rfl
theorem sz_2 : szK Tryz.prog 2 = Option.some 1 := by kernel_rfl
theorem sz_20 : szK Tryz.prog 20 = Option.some 1 := by kernel_rfl
theorem sz_200 : szK Tryz.prog 200 = Option.some 1 := by kernel_rfl
theorem sz_202 : szK Tryz.prog 202 = Option.some 1 := by kernel_rfl
theorem sz_203 : szK Tryz.prog 203 = Option.some 1 := by kernel_rfl
theorem sz_205 : szK Tryz.prog 205 = Option.some 1 := by kernel_rfl
theorem sz_21 : szK Tryz.prog 21 = Option.some 1 := by kernel_rfl
theorem sz_216 : szK Tryz.prog 216 = Option.some 1 := by kernel_rfl
theorem sz_22 : szK Tryz.prog 22 = Option.some 1 := by kernel_rfl
theorem sz_222 : szK Tryz.prog 222 = Option.some 256 := by kernel_rfl
theorem sz_223 : szK Tryz.prog 223 = Option.some 256 := by kernel_rfl
theorem sz_227 : szK Tryz.prog 227 = Option.some 1 := by kernel_rfl
theorem sz_23 : szK Tryz.prog 23 = Option.some 2 := by kernel_rfl
theorem sz_230 : szK Tryz.prog 230 = Option.some 1 := by kernel_rfl
theorem sz_24 : szK Tryz.prog 24 = Option.some 2 := by kernel_rfl
theorem sz_242 : szK Tryz.prog 242 = Option.some 256 := by kernel_rfl
theorem sz_243 : szK Tryz.prog 243 = Option.some 2 := by kernel_rfl
theorem sz_244 : szK Tryz.prog 244 = Option.some 2 := by kernel_rfl
theorem sz_245 : szK Tryz.prog 245 = Option.some 32 := by kernel_rfl
theorem sz_25 : szK Tryz.prog 25 = Option.some 1 := by kernel_rfl
theorem sz_250 : szK Tryz.prog 250 = Option.some 4 := by kernel_rfl
theorem sz_251 : szK Tryz.prog 251 = Option.some 4 := by kernel_rfl
theorem sz_252 : szK Tryz.prog 252 = Option.some 0 := by kernel_rfl
theorem sz_253 : szK Tryz.prog 253 = Option.some 0 := by kernel_rfl
theorem sz_254 : szK Tryz.prog 254 = Option.some 0 := by kernel_rfl
theorem sz_257 : szK Tryz.prog 257 = Option.some 1 := by kernel_rfl
theorem sz_258 : szK Tryz.prog 258 = Option.some 1 := by kernel_rfl
theorem sz_26 : szK Tryz.prog 26 = Option.some 1 := by kernel_rfl
theorem sz_27 : szK Tryz.prog 27 = Option.some 1 := by kernel_rfl
theorem sz_28 : szK Tryz.prog 28 = Option.some 1 := by kernel_rfl
theorem sz_29 : szK Tryz.prog 29 = Option.some 7 := by kernel_rfl
theorem sz_3 : szK Tryz.prog 3 = Option.some 1 := by kernel_rfl
theorem sz_30 : szK Tryz.prog 30 = Option.some 7 := by kernel_rfl
theorem sz_31 : szK Tryz.prog 31 = Option.some 1 := by kernel_rfl
theorem sz_34 : szK Tryz.prog 34 = Option.some 1 := by kernel_rfl
theorem sz_35 : szK Tryz.prog 35 = Option.some 1 := by kernel_rfl
theorem sz_36 : szK Tryz.prog 36 = Option.some 10 := by kernel_rfl
theorem sz_37 : szK Tryz.prog 37 = Option.some 2 := by kernel_rfl
theorem sz_38 : szK Tryz.prog 38 = Option.some 2 := by kernel_rfl
theorem sz_39 : szK Tryz.prog 39 = Option.some 19 := by kernel_rfl
theorem sz_4 : szK Tryz.prog 4 = Option.some 1 := by kernel_rfl
theorem sz_40 : szK Tryz.prog 40 = Option.some 19 := by kernel_rfl
theorem sz_41 : szK Tryz.prog 41 = Option.some 1 := by kernel_rfl
theorem sz_42 : szK Tryz.prog 42 = Option.some 4 := by kernel_rfl
theorem sz_43 : szK Tryz.prog 43 = Option.some 6 := by kernel_rfl
theorem sz_44 : szK Tryz.prog 44 = Option.some 6 := by kernel_rfl
theorem sz_45 : szK Tryz.prog 45 = Option.some 5 := by kernel_rfl
theorem sz_46 : szK Tryz.prog 46 = Option.some 5 := by kernel_rfl
theorem sz_5 : szK Tryz.prog 5 = Option.some 1 := by kernel_rfl
theorem sz_52 : szK Tryz.prog 52 = Option.some 1 := by kernel_rfl
theorem sz_54 : szK Tryz.prog 54 = Option.some 1 := by kernel_rfl
theorem sz_55 : szK Tryz.prog 55 = Option.some 1 := by kernel_rfl
theorem sz_56 : szK Tryz.prog 56 = Option.some 10 := by kernel_rfl
theorem sz_57 : szK Tryz.prog 57 = Option.some 10 := by kernel_rfl
theorem sz_6 : szK Tryz.prog 6 = Option.some 1 := by kernel_rfl
theorem sz_64 : szK Tryz.prog 64 = Option.some 2 := by kernel_rfl
theorem sz_65 : szK Tryz.prog 65 = Option.some 2 := by kernel_rfl
theorem sz_66 : szK Tryz.prog 66 = Option.some 4 := by kernel_rfl
theorem sz_67 : szK Tryz.prog 67 = Option.some 4 := by kernel_rfl
theorem sz_7 : szK Tryz.prog 7 = Option.some 4 := by kernel_rfl
theorem sz_76 : szK Tryz.prog 76 = Option.some 4 := by kernel_rfl
theorem sz_77 : szK Tryz.prog 77 = Option.some 4 := by kernel_rfl
theorem sz_8 : szK Tryz.prog 8 = Option.some 4 := by kernel_rfl
theorem sz_83 : szK Tryz.prog 83 = Option.some 5 := by kernel_rfl
theorem sz_84 : szK Tryz.prog 84 = Option.some 5 := by kernel_rfl
theorem sz_85 : szK Tryz.prog 85 = Option.some 1 := by kernel_rfl
theorem sz_86 : szK Tryz.prog 86 = Option.some 1 := by kernel_rfl
theorem sz_9 : szK Tryz.prog 9 = Option.some 1 := by kernel_rfl
theorem sz_91 : szK Tryz.prog 91 = Option.some 1 := by kernel_rfl
theorem zc_10 : zcK Tryz.prog 10 = Option.some [Go.Value.string { data := { toList := [] } }] := by kernel_rfl
theorem zc_100 : zcK Tryz.prog 100 = Option.some [Go.Value.slice Option.none 0 0, Go.Value.slice Option.none 0 0] := by kernel_rfl
theorem zc_108 : zcK Tryz.prog 108 = Option.some [Go.Value.pointer Option.none] := by kernel_rfl
theorem zc_11 : zcK Tryz.prog 11 = Option.some [Go.Value.string { data := { toList := [] } }] := by kernel_rfl
theorem zc_110 : zcK Tryz.prog 110 = Option.some [Go.Value.slice Option.none 0 0] := by kernel_rfl
theorem zc_116 : zcK Tryz.prog 116 = Option.some [Go.Value.slice Option.none 0 0] := by kernel_rfl
theorem zc_12 : zcK Tryz.prog 12 = Option.some [Go.Value.int Go.IntKind.u64 (Int.ofNat 0)] := by kernel_rfl
theorem zc_126 : zcK Tryz.prog 126 = Option.some [Go.Value.slice Option.none 0 0] := by kernel_rfl
theorem zc_13 : zcK Tryz.prog 13 = Option.some [Go.Value.string { data := { toList := [] } }, Go.Value.int Go.IntKind.u64 (Int.ofNat 0)] := by kernel_rfl
theorem zc_134 : zcK Tryz.prog 134 = Option.some [Go.Value.int Go.IntKind.i64 (Int.ofNat 0)] := by kernel_rfl
theorem zc_14 : zcK Tryz.prog 14 = Option.some [Go.Value.string { data := { toList := [] } }, Go.Value.int Go.IntKind.u64 (Int.ofNat 0)] := by kernel_rfl
theorem zc_142 : zcK Tryz.prog 142 = Option.some [] := by kernel_rfl
theorem zc_143 : zcK Tryz.prog 143 = Option.some [] := by kernel_rfl
theorem zc_15 : zcK Tryz.prog 15 = Option.some [Go.Value.pointer Option.none] := by kernel_rfl
theorem zc_153 : zcK Tryz.prog 153 = Option.some [Go.Value.int Go.IntKind.u64 (Int.ofNat 0)] := by kernel_rfl
theorem zc_154 : zcK Tryz.prog 154 = Option.some [Go.Value.pointer Option.none, Go.Value.pointer Option.none, Go.Value.int Go.IntKind.u64 (Int.ofNat 0)] := by kernel_rfl
theorem zc_155 : zcK Tryz.prog 155 = Option.some [Go.Value.pointer Option.none, Go.Value.pointer Option.none, Go.Value.int Go.IntKind.u64 (Int.ofNat 0)] := by kernel_rfl
theorem zc_157 : zcK Tryz.prog 157 = Option.some [Go.Value.nilIface] := by kernel_rfl
theorem zc_158 : zcK Tryz.prog 158 = Option.some [Go.Value.nilIface] := by kernel_rfl
theorem zc_16 : zcK Tryz.prog 16 = Option.some [Go.Value.pointer Option.none] := by kernel_rfl
theorem zc_160 : zcK Tryz.prog 160 = Option.some [Go.Value.int Go.IntKind.u8 (Int.ofNat 0)] := by kernel_rfl
theorem zc_167 : zcK Tryz.prog 167 = Option.some [Go.Value.slice Option.none 0 0] := by kernel_rfl
theorem zc_168 : zcK Tryz.prog 168 = Option.some [Go.Value.pointer Option.none] := by kernel_rfl
theorem zc_169 : zcK Tryz.prog 169 = Option.some [Go.Value.slice Option.none 0 0, Go.Value.slice Option.none 0 0] := by kernel_rfl
theorem zc_17 : zcK Tryz.prog 17 = Option.some [Go.Value.pointer Option.none] := by kernel_rfl
theorem zc_170 : zcK Tryz.prog 170 = Option.some [Go.Value.slice Option.none 0 0, Go.Value.slice Option.none 0 0] := by kernel_rfl
theorem zc_18 : zcK Tryz.prog 18 = Option.some [Go.Value.pointer Option.none] := by kernel_rfl
theorem zc_180 : zcK Tryz.prog 180 = Option.some [Go.Value.map Option.none] := by kernel_rfl
theorem zc_184 : zcK Tryz.prog 184 = Option.some [Go.Value.pointer Option.none] := by kernel_rfl
theorem zc_185 : zcK Tryz.prog 185 = Option.some [Go.Value.int Go.IntKind.i64 (Int.ofNat 0), Go.Value.nilIface] := by kernel_rfl
theorem zc_186 : zcK Tryz.prog 186 = Option.some [Go.Value.int Go.IntKind.i64 (Int.ofNat 0), Go.Value.nilIface] := by kernel_rfl
theorem zc_19 : zcK Tryz.prog 19 = Option.some [Go.Value.pointer Option.none] := by kernel_rfl
theorem zc_192 : zcK Tryz.prog 192 = Option.some [Go.Value.pointer Option.none] := by kernel_rfl
theorem zc_193 : zcK Tryz.prog 193 = Option.some [Go.Value.pointer Option.none] := by kernel_rfl
theorem zc_194 : zcK Tryz.prog 194 = Option.some [Go.Value.pointer Option.none] := by kernel_rfl
theorem zc_197 : zcK Tryz.prog 197 = Option.some [Go.Value.nilIface] := by kernel_rfl
theorem zc_2 : zcK Tryz.prog 2 = Option.some [Go.Value.int Go.IntKind.i64 (Int.ofNat 0)] := by kernel_rfl
theorem zc_20 : zcK Tryz.prog 20 = Option.some [Go.Value.nilIface] := by kernel_rfl
theorem zc_200 : zcK Tryz.prog 200 = Option.some [Go.Value.nilIface] := by kernel_rfl
theorem zc_202 : zcK Tryz.prog 202 = Option.some [Go.Value.nilIface] := by kernel_rfl
theorem zc_203 : zcK Tryz.prog 203 = Option.some [Go.Value.slice Option.none 0 0] := by kernel_rfl
theorem zc_205 : zcK Tryz.prog 205 = Option.some [Go.Value.nilIface] := by kernel_rfl
theorem zc_21 : zcK Tryz.prog 21 = Option.some [Go.Value.int Go.IntKind.i32 (Int.ofNat 0)] := by kernel_rfl
theorem zc_216 : zcK Tryz.prog 216 = Option.some [Go.Value.slice Option.none 0 0] := by kernel_rfl
theorem zc_22 : zcK Tryz.prog 22 = Option.some [Go.Value.slice Option.none 0 0] := by kernel_rfl
theorem zc_222 : zcK Tryz.prog 222 = Option.some [Go.Value.bool Bool.false, Go.Value.bool Bool.false, Go.Value.bool Bool.false, Go.Value.bool Bool.false, Go.Value.bool Bool.false, Go.Value.bool Bool.false, Go.Value.bool Bool.false, Go.Value.bool Bool.false, Go.Value.bool Bool.false, Go.Value.bool Bool.false, Go.Value.bool Bool.false, Go.Value.bool Bool.false, Go.Value.bool Bool.false, Go.Value.bool Bool.false, Go.Value.bool Bool.false, Go.Value.bool Bool.false, Go.Value.bool Bool.false, Go.Value.bool Bool.false, Go.Value.bool Bool.false, Go.Value.bool Bool.false, Go.Value.bool Bool.false, Go.Value.bool Bool.false, Go.Value.bool Bool.false, Go.Value.bool Bool.false, Go.Value.bool Bool.false, Go.Value.bool Bool.false, Go.Value.bool Bool.false, Go.Value.bool Bool.false, Go.Value.bool Bool.false, Go.Value.bool Bool.false, Go.Value.bool Bool.false, Go.Value.bool Bool.false, Go.Value.bool Bool.false, Go.Value.bool Bool.false, Go.Value.bool Bool.false, Go.Value.bool Bool.false, Go.Value.bool Bool.false, Go.Value.bool Bool.false, Go.Value.bool Bool.false, Go.Value.bool Bool.false, Go.Value.bool Bool.false, Go.Value.bool Bool.false, Go.Value.bool Bool.false, Go.Value.bool Bool.false, Go.Value.bool Bool.false, Go.Value.bool Bool.false, Go.Value.bool Bool.false, Go.Value.bool Bool.false, Go.Value.bool Bool.false, Go.Value.bool Bool.false, Go.Value.bool Bool.false, Go.Value.bool Bool.false, Go.Value.bool Bool.false, Go.Value.bool Bool.false, Go.Value.bool Bool.false, Go.Value.bool Bool.false, Go.Value.bool Bool.false, Go.Value.bool Bool.false, Go.Value.bool Bool.false, Go.Value.bool Bool.false, Go.Value.bool Bool.false, Go.Value.bool Bool.false, Go.Value.bool Bool.false, Go.Value.bool Bool.false, Go.Value.bool Bool.false, Go.Value.bool Bool.false, Go.Value.bool Bool.false, Go.Value.bool Bool.false, Go.Value.bool Bool.false, Go.Value.bool Bool.false, Go.Value.bool Bool.false, Go.Value.bool Bool.false, Go.Value.bool Bool.false, Go.Value.bool Bool.false, Go.Value.bool Bool.false, Go.Value.bool Bool.false, Go.Value.bool Bool.false, Go.Value.bool Bool.false, Go.Value.bool Bool.false, Go.Value.bool Bool.false, Go.Value.bool Bool.false, Go.Value.bool Bool.false, Go.Value.bool Bool.false, Go.Value.bool Bool.false, Go.Value.bool Bool.false, Go.Value.bool Bool.false, Go.Value.bool Bool.false, Go.Value.bool Bool.false, Go.Value.bool Bool.false, Go.Value.bool Bool.false, Go.Value.bool Bool.false, Go.Value.bool Bool.false, Go.Value.bool Bool.false, Go.Value.bool Bool.false, Go.Value.bool Bool.false, Go.Value.bool Bool.false, Go.Value.bool Bool.false, Go.Value.bool Bool.false, Go.Value.bool Bool.false, Go.Value.bool Bool.false, Go.Value.bool Bool.false, Go.Value.bool Bool.false, Go.Value.bool Bool.false, Go.Value.bool Bool.false, Go.Value.bool Bool.false, Go.Value.bool Bool.false, Go.Value.bool Bool.false, Go.Value.bool Bool.false, Go.Value.bool Bool.false, Go.Value.bool Bool.false, Go.Value.bool Bool.false, Go.Value.bool Bool.false, Go.Value.bool Bool.false, Go.Value.bool Bool.false, Go.Value.bool Bool.false, Go.Value.bool Bool.false, Go.Value.bool Bool.false, Go.Value.bool Bool.false, Go.Value.bool Bool.false, Go.Value.bool Bool.false, Go.Value.bool Bool.false, Go.Value.bool Bool.false, Go.Value.bool Bool.false, Go.Value.bool Bool.false, Go.Value.bool Bool.false, Go.Value.bool Bool.false, Go.Value.bool Bool.false, Go.Value.bool Bool.false, Go.Value.bool Bool.false, Go.Value.bool Bool.false, Go.Value.bool Bool.false, Go.Value.bool Bool.false, Go.Value.bool Bool.false, Go.Value.bool Bool.false, Go.Value.bool Bool.false, Go.Value.bool Bool.false, Go.Value.bool Bool.false, Go.Value.bool Bool.false, Go.Value.bool Bool.false, Go.Value.bool Bool.false, Go.Value.bool Bool.false, Go.Value.bool Bool.false, Go.Value.bool Bool.false, Go.Value.bool Bool.false, Go.Value.bool Bool.false, Go.Value.bool Bool.false, Go.Value.bool Bool.false, Go.Value.bool Bool.false, Go.Value.bool Bool.false, Go.Value.bool Bool.false, Go.Value.bool Bool.false, Go.Value.bool Bool.false, Go.Value.bool Bool.false, Go.Value.bool Bool.false, Go.Value.bool Bool.false, Go.Value.bool Bool.false, Go.Value.bool Bool.false, Go.Value.bool Bool.false, Go.Value.bool Bool.false, Go.Value.bool Bool.false, Go.Value.bool Bool.false, Go.Value.bool Bool.false, Go.Value.bool Bool.false, Go.Value.bool Bool.false, Go.Value.bool Bool.false, Go.Value.bool Bool.false, Go.Value.bool Bool.false, Go.Value.bool Bool.false, Go.Value.bool Bool.false, Go.Value.bool Bool.false, Go.Value.bool Bool.false, Go.Value.bool Bool.false, Go.Value.bool Bool.false, Go.Value.bool Bool.false, Go.Value.bool Bool.false, Go.Value.bool Bool.false, Go.Value.bool Bool.false, Go.Value.bool Bool.false, Go.Value.bool Bool.false, Go.Value.bool Bool.false, Go.Value.bool Bool.false, Go.Value.bool Bool.false, Go.Value.bool Bool.false, Go.Value.bool Bool.false, Go.Value.bool Bool.false, Go.Value.bool Bool.false, Go.Value.bool Bool.false, Go.Value.bool Bool.false, Go.Value.bool Bool.false, Go.Value.bool Bool.false, Go.Value.bool Bool.false, Go.Value.bool Bool.false, Go.Value.bool Bool.false, Go.Value.bool Bool.false, Go.Value.bool Bool.false, Go.Value.bool Bool.false, Go.Value.bool Bool.false, Go.Value.bool Bool.false, Go.Value.bool Bool.false, Go.Value.bool Bool.false, Go.Value.bool Bool.false, Go.Value.bool Bool.false, Go.Value.bool Bool.false, Go.Value.bool Bool.false, Go.Value.bool Bool.false, Go.Value.bool Bool.false, Go.Value.bool Bool.false, Go.Value.bool Bool.false, Go.Value.bool Bool.false, Go.Value.bool Bool.false, Go.Value.bool Bool.false, Go.Value.bool Bool.false, Go.Value.bool Bool.false, Go.Value.bool Bool.false, Go.Value.bool Bool.false, Go.Value.bool Bool.false, Go.Value.bool Bool.false, Go.Value.bool Bool.false, Go.Value.bool Bool.false, Go.Value.bool Bool.false, Go.Value.bool Bool.false, Go.Value.bool Bool.false, Go.Value.bool Bool.false, Go.Value.bool Bool.false, Go.Value.bool Bool.false, Go.Value.bool Bool.false, Go.Value.bool Bool.false, Go.Value.bool Bool.false, Go.Value.bool Bool.false, Go.Value.bool Bool.false, Go.Value.bool Bool.false, Go.Value.bool Bool.false, Go.Value.bool Bool.false, Go.Value.bool Bool.false, Go.Value.bool Bool.false, Go.Value.bool Bool.false, Go.Value.bool Bool.false, Go.Value.bool Bool.false, Go.Value.bool Bool.false, Go.Value.bool Bool.false, Go.Value.bool Bool.false, Go.Value.bool Bool.false, Go.Value.bool Bool.false, Go.Value.bool Bool.false, Go.Value.bool Bool.false, Go.Value.bool Bool.false, Go.Value.bool Bool.false, Go.Value.bool Bool.false, Go.Value.bool Bool.false, Go.Value.bool Bool.false, Go.Value.bool Bool.false, Go.Value.bool Bool.false, Go.Value.bool Bool.false, Go.Value.bool Bool.false, Go.Value.bool Bool.false, Go.Value.bool Bool.false] := by kernel_rfl
theorem zc_223 : zcK Tryz.prog 223 = Option.some [Go.Value.bool Bool.false, Go.Value.bool Bool.false, Go.Value.bool Bool.false, Go.Value.bool Bool.false, Go.Value.bool Bool.false, Go.Value.bool Bool.false, Go.Value.bool Bool.false, Go.Value.bool Bool.false, Go.Value.bool Bool.false, Go.Value.bool Bool.false, Go.Value.bool Bool.false, Go.Value.bool Bool.false, Go.Value.bool Bool.false, Go.Value.bool Bool.false, Go.Value.bool Bool.false, Go.Value.bool Bool.false, Go.Value.bool Bool.false, Go.Value.bool Bool.false, Go.Value.bool Bool.false, Go.Value.bool Bool.false, Go.Value.bool Bool.false, Go.Value.bool Bool.false, Go.Value.bool Bool.false, Go.Value.bool Bool.false, Go.Value.bool Bool.false, Go.Value.bool Bool.false, Go.Value.bool Bool.false, Go.Value.bool Bool.false, Go.Value.bool Bool.false, Go.Value.bool Bool.false, Go.Value.bool Bool.false, Go.Value.bool Bool.false, Go.Value.bool Bool.false, Go.Value.bool Bool.false, Go.Value.bool Bool.false, Go.Value.bool Bool.false, Go.Value.bool Bool.false, Go.Value.bool Bool.false, Go.Value.bool Bool.false, Go.Value.bool Bool.false, Go.Value.bool Bool.false, Go.Value.bool Bool.false, Go.Value.bool Bool.false, Go.Value.bool Bool.false, Go.Value.bool Bool.false, Go.Value.bool Bool.false, Go.Value.bool Bool.false, Go.Value.bool Bool.false, Go.Value.bool Bool.false, Go.Value.bool Bool.false, Go.Value.bool Bool.false, Go.Value.bool Bool.false, Go.Value.bool Bool.false, Go.Value.bool Bool.false, Go.Value.bool Bool.false, Go.Value.bool Bool.false, Go.Value.bool Bool.false, Go.Value.bool Bool.false, Go.Value.bool Bool.false, Go.Value.bool Bool.false, Go.Value.bool Bool.false, Go.Value.bool Bool.false, Go.Value.bool Bool.false, Go.Value.bool Bool.false, Go.Value.bool Bool.false, Go.Value.bool Bool.false, Go.Value.bool Bool.false, Go.Value.bool Bool.false, Go.Value.bool Bool.false, Go.Value.bool Bool.false, Go.Value.bool Bool.false, Go.Value.bool Bool.false, Go.Value.bool Bool.false, Go.Value.bool Bool.false, Go.Value.bool Bool.false, Go.Value.bool Bool.false, Go.Value.bool Bool.false, Go.Value.bool Bool.false, Go.Value.bool Bool.false, Go.Value.bool Bool.false, Go.Value.bool Bool.false, Go.Value.bool Bool.false, Go.Value.bool Bool.false, Go.Value.bool Bool.false, Go.Value.bool Bool.false, Go.Value.bool Bool.false, Go.Value.bool Bool.false, Go.Value.bool Bool.false, Go.Value.bool Bool.false, Go.Value.bool Bool.false, Go.Value.bool Bool.false, Go.Value.bool Bool.false, Go.Value.bool Bool.false, Go.Value.bool Bool.false, Go.Value.bool Bool.false, Go.Value.bool Bool.false, Go.Value.bool Bool.false, Go.Value.bool Bool.false, Go.Value.bool Bool.false, Go.Value.bool Bool.false, Go.Value.bool Bool.false, Go.Value.bool Bool.false, Go.Value.bool Bool.false, Go.Value.bool Bool.false, Go.Value.bool Bool.false, Go.Value.bool Bool.false, Go.Value.bool Bool.false, Go.Value.bool Bool.false, Go.Value.bool Bool.false, Go.Value.bool Bool.false, Go.Value.bool Bool.false, Go.Value.bool Bool.false, Go.Value.bool Bool.false, Go.Value.bool Bool.false, Go.Value.bool Bool.false, Go.Value.bool Bool.false, Go.Value.bool Bool.false, Go.Value.bool Bool.false, Go.Value.bool Bool.false, Go.Value.bool Bool.false, Go.Value.bool Bool.false, Go.Value.bool Bool.false, Go.Value.bool Bool.false, Go.Value.bool Bool.false, Go.Value.bool Bool.false, Go.Value.bool Bool.false, Go.Value.bool Bool.false, Go.Value.bool Bool.false, Go.Value.bool Bool.false, Go.Value.bool Bool.false, Go.Value.bool Bool.false, Go.Value.bool Bool.false, Go.Value.bool Bool.false, Go.Value.bool Bool.false, Go.Value.bool Bool.false, Go.Value.bool Bool.false, Go.Value.bool Bool.false, Go.Value.bool Bool.false, Go.Value.bool Bool.false, Go.Value.bool Bool.false, Go.Value.bool Bool.false, Go.Value.bool Bool.false, Go.Value.bool Bool.false, Go.Value.bool Bool.false, Go.Value.bool Bool.false, Go.Value.bool Bool.false, Go.Value.bool Bool.false, Go.Value.bool Bool.false, Go.Value.bool Bool.false, Go.Value.bool Bool.false, Go.Value.bool Bool.false, Go.Value.bool Bool.false, Go.Value.bool Bool.false, Go.Value.bool Bool.false, Go.Value.bool Bool.false, Go.Value.bool Bool.false, Go.Value.bool Bool.false, Go.Value.bool Bool.false, Go.Value.bool Bool.false, Go.Value.bool Bool.false, Go.Value.bool Bool.false, Go.Value.bool Bool.false, Go.Value.bool Bool.false, Go.Value.bool Bool.false, Go.Value.bool Bool.false, Go.Value.bool Bool.false, Go.Value.bool Bool.false, Go.Value.bool Bool.false, Go.Value.bool Bool.false, Go.Value.bool Bool.false, Go.Value.bool Bool.false, Go.Value.bool Bool.false, Go.Value.bool Bool.false, Go.Value.bool Bool.false, Go.Value.bool Bool.false, Go.Value.bool Bool.false, Go.Value.bool Bool.false, Go.Value.bool Bool.false, Go.Value.bool Bool.false, Go.Value.bool Bool.false, Go.Value.bool Bool.false, Go.Value.bool Bool.false, Go.Value.bool Bool.false, Go.Value.bool Bool.false, Go.Value.bool Bool.false, Go.Value.bool Bool.false, Go.Value.bool Bool.false, Go.Value.bool Bool.false, Go.Value.bool Bool.false, Go.Value.bool Bool.false, Go.Value.bool Bool.false, Go.Value.bool Bool.false, Go.Value.bool Bool.false, Go.Value.bool Bool.false, Go.Value.bool Bool.false, Go.Value.bool Bool.false, Go.Value.bool Bool.false, Go.Value.bool Bool.false, Go.Value.bool Bool.false, Go.Value.bool Bool.false, Go.Value.bool Bool.false, Go.Value.bool Bool.false, Go.Value.bool Bool.false, Go.Value.bool Bool.false, Go.Value.bool Bool.false, Go.Value.bool Bool.false, Go.Value.bool Bool.false, Go.Value.bool Bool.false, Go.Value.bool Bool.false, Go.Value.bool Bool.false, Go.Value.bool Bool.false, Go.Value.bool Bool.false, Go.Value.bool Bool.false, Go.Value.bool Bool.false, Go.Value.bool Bool.false, Go.Value.bool Bool.false, Go.Value.bool Bool.false, Go.Value.bool Bool.false, Go.Value.bool Bool.false, Go.Value.bool Bool.false, Go.Value.bool Bool.false, Go.Value.bool Bool.false, Go.Value.bool Bool.false, Go.Value.bool Bool.false, Go.Value.bool Bool.false, Go.Value.bool Bool.false, Go.Value.bool Bool.false, Go.Value.bool Bool.false, Go.Value.bool Bool.false, Go.Value.bool Bool.false, Go.Value.bool Bool.false, Go.Value.bool Bool.false, Go.Value.bool Bool.false, Go.Value.bool Bool.false, Go.Value.bool Bool.false, Go.Value.bool Bool.false, Go.Value.bool Bool.false, Go.Value.bool Bool.false, Go.Value.bool Bool.false, Go.Value.bool Bool.false, Go.Value.bool Bool.false, Go.Value.bool Bool.false, Go.Value.bool Bool.false, Go.Value.bool Bool.false, Go.Value.bool Bool.false, Go.Value.bool Bool.false, Go.Value.bool Bool.false, Go.Value.bool Bool.false, Go.Value.bool Bool.false, Go.Value.bool Bool.false, Go.Value.bool Bool.false, Go.Value.bool Bool.false, Go.Value.bool Bool.false, Go.Value.bool Bool.false, Go.Value.bool Bool.false, Go.Value.bool Bool.false] := by kernel_rfl
theorem zc_227 : zcK Tryz.prog 227 = Option.some [Go.Value.pointer Option.none] := by kernel_rfl
theorem zc_23 : zcK Tryz.prog 23 = Option.some [Go.Value.string { data := { toList := [] } }, Go.Value.string { data := { toList := [] } }] := by kernel_rfl
theorem zc_230 : zcK Tryz.prog 230 = Option.some [Go.Value.int Go.IntKind.u64 (Int.ofNat 0)] := by kernel_rfl
theorem zc_24 : zcK Tryz.prog 24 = Option.some [Go.Value.string { data := { toList := [] } }, Go.Value.string { data := { toList := [] } }] := by kernel_rfl
theorem zc_242 : zcK Tryz.prog 242 = Option.some [Go.Value.int Go.IntKind.u8 (Int.ofNat 0), Go.Value.int Go.IntKind.u8 (Int.ofNat 0), Go.Value.int Go.IntKind.u8 (Int.ofNat 0), Go.Value.int Go.IntKind.u8 (Int.ofNat 0), Go.Value.int Go.IntKind.u8 (Int.ofNat 0), Go.Value.int Go.IntKind.u8 (Int.ofNat 0), Go.Value.int Go.IntKind.u8 (Int.ofNat 0), Go.Value.int Go.IntKind.u8 (Int.ofNat 0), Go.Value.int Go.IntKind.u8 (Int.ofNat 0), Go.Value.int Go.IntKind.u8 (Int.ofNat 0), Go.Value.int Go.IntKind.u8 (Int.ofNat 0), Go.Value.int Go.IntKind.u8 (Int.ofNat 0), Go.Value.int Go.IntKind.u8 (Int.ofNat 0), Go.Value.int Go.IntKind.u8 (Int.ofNat 0), Go.Value.int Go.IntKind.u8 (Int.ofNat 0), Go.Value.int Go.IntKind.u8 (Int.ofNat 0), Go.Value.int Go.IntKind.u8 (Int.ofNat 0), Go.Value.int Go.IntKind.u8 (Int.ofNat 0), Go.Value.int Go.IntKind.u8 (Int.ofNat 0), Go.Value.int Go.IntKind.u8 (Int.ofNat 0), Go.Value.int Go.IntKind.u8 (Int.ofNat 0), Go.Value.int Go.IntKind.u8 (Int.ofNat 0), Go.Value.int Go.IntKind.u8 (Int.ofNat 0), Go.Value.int Go.IntKind.u8 (Int.ofNat 0), Go.Value.int Go.IntKind.u8 (Int.ofNat 0), Go.Value.int Go.IntKind.u8 (Int.ofNat 0), Go.Value.int Go.IntKind.u8 (Int.ofNat 0), Go.Value.int Go.IntKind.u8 (Int.ofNat 0), Go.Value.int Go.IntKind.u8 (Int.ofNat 0), Go.Value.int Go.IntKind.u8 (Int.ofNat 0), Go.Value.int Go.IntKind.u8 (Int.ofNat 0), Go.Value.int Go.IntKind.u8 (Int.ofNat 0), Go.Value.int Go.IntKind.u8 (Int.ofNat 0), Go.Value.int Go.IntKind.u8 (Int.ofNat 0), Go.Value.int Go.IntKind.u8 (Int.ofNat 0), Go.Value.int Go.IntKind.u8 (Int.ofNat 0), Go.Value.int Go.IntKind.u8 (Int.ofNat 0), Go.Value.int Go.IntKind.u8 (Int.ofNat 0), Go.Value.int Go.IntKind.u8 (Int.ofNat 0), Go.Value.int Go.IntKind.u8 (Int.ofNat 0), Go.Value.int Go.IntKind.u8 (Int.ofNat 0), Go.Value.int Go.IntKind.u8 (Int.ofNat 0), Go.Value.int Go.IntKind.u8 (Int.ofNat 0), Go.Value.int Go.IntKind.u8 (Int.ofNat 0), Go.Value.int Go.IntKind.u8 (Int.ofNat 0), Go.Value.int Go.IntKind.u8 (Int.ofNat 0), Go.Value.int Go.IntKind.u8 (Int.ofNat 0), Go.Value.int Go.IntKind.u8 (Int.ofNat 0), Go.Value.int Go.IntKind.u8 (Int.ofNat 0), Go.Value.int Go.IntKind.u8 (Int.ofNat 0), Go.Value.int Go.IntKind.u8 (Int.ofNat 0), Go.Value.int Go.IntKind.u8 (Int.ofNat 0), Go.Value.int Go.IntKind.u8 (Int.ofNat 0), Go.Value.int Go.IntKind.u8 (Int.ofNat 0), Go.Value.int Go.IntKind.u8 (Int.ofNat 0), Go.Value.int Go.IntKind.u8 (Int.ofNat 0), Go.Value.int Go.IntKind.u8 (Int.ofNat 0), Go.Value.int Go.IntKind.u8 (Int.ofNat 0), Go.Value.int Go.IntKind.u8 (Int.ofNat 0), Go.Value.int Go.IntKind.u8 (Int.ofNat 0), Go.Value.int Go.IntKind.u8 (Int.ofNat 0), Go.Value.int Go.IntKind.u8 (Int.ofNat 0), Go.Value.int Go.IntKind.u8 (Int.ofNat 0), Go.Value.int Go.IntKind.u8 (Int.ofNat 0), Go.Value.int Go.IntKind.u8 (Int.ofNat 0), Go.Value.int Go.IntKind.u8 (Int.ofNat 0), Go.Value.int Go.IntKind.u8 (Int.ofNat 0), Go.Value.int Go.IntKind.u8 (Int.ofNat 0), Go.Value.int Go.IntKind.u8 (Int.ofNat 0), Go.Value.int Go.IntKind.u8 (Int.ofNat 0), Go.Value.int Go.IntKind.u8 (Int.ofNat 0), Go.Value.int Go.IntKind.u8 (Int.ofNat 0), Go.Value.int Go.IntKind.u8 (Int.ofNat 0), Go.Value.int Go.IntKind.u8 (Int.ofNat 0), Go.Value.int Go.IntKind.u8 (Int.ofNat 0), Go.Value.int Go.IntKind.u8 (Int.ofNat 0), Go.Value.int Go.IntKind.u8 (Int.ofNat 0), Go.Value.int Go.IntKind.u8 (Int.ofNat 0), Go.Value.int Go.IntKind.u8 (Int.ofNat 0), Go.Value.int Go.IntKind.u8 (Int.ofNat 0), Go.Value.int Go.IntKind.u8 (Int.ofNat 0), Go.Value.int Go.IntKind.u8 (Int.ofNat 0), Go.Value.int Go.IntKind.u8 (Int.ofNat 0), Go.Value.int Go.IntKind.u8 (Int.ofNat 0), Go.Value.int Go.IntKind.u8 (Int.ofNat 0), Go.Value.int Go.IntKind.u8 (Int.ofNat 0), Go.Value.int Go.IntKind.u8 (Int.ofNat 0), Go.Value.int Go.IntKind.u8 (Int.ofNat 0), Go.Value.int Go.IntKind.u8 (Int.ofNat 0), Go.Value.int Go.IntKind.u8 (Int.ofNat 0), Go.Value.int Go.IntKind.u8 (Int.ofNat 0), Go.Value.int Go.IntKind.u8 (Int.ofNat 0), Go.Value.int Go.IntKind.u8 (Int.ofNat 0), Go.Value.int Go.IntKind.u8 (Int.ofNat 0), Go.Value.int Go.IntKind.u8 (Int.ofNat 0), Go.Value.int Go.IntKind.u8 (Int.ofNat 0), Go.Value.int Go.IntKind.u8 (Int.ofNat 0), Go.Value.int Go.IntKind.u8 (Int.ofNat 0), Go.Value.int Go.IntKind.u8 (Int.ofNat 0), Go.Value.int Go.IntKind.u8 (Int.ofNat 0), Go.Value.int Go.IntKind.u8 (Int.ofNat 0), Go.Value.int Go.IntKind.u8 (Int.ofNat 0), Go.Value.int Go.IntKind.u8 (Int.ofNat 0), Go.Value.int Go.IntKind.u8 (Int.ofNat 0), Go.Value.int Go.IntKind.u8 (Int.ofNat 0), Go.Value.int Go.IntKind.u8 (Int.ofNat 0), Go.Value.int Go.IntKind.u8 (Int.ofNat 0), Go.Value.int Go.IntKind.u8 (Int.ofNat 0), Go.Value.int Go.IntKind.u8 (Int.ofNat 0), Go.Value.int Go.IntKind.u8 (Int.ofNat 0), Go.Value.int Go.IntKind.u8 (Int.ofNat 0), Go.Value.int Go.IntKind.u8 (Int.ofNat 0), Go.Value.int Go.IntKind.u8 (Int.ofNat 0), Go.Value.int Go.IntKind.u8 (Int.ofNat 0), Go.Value.int Go.IntKind.u8 (Int.ofNat 0), Go.Value.int Go.IntKind.u8 (Int.ofNat 0), Go.Value.int Go.IntKind.u8 (Int.ofNat 0), Go.Value.int Go.IntKind.u8 (Int.ofNat 0), Go.Value.int Go.IntKind.u8 (Int.ofNat 0), Go.Value.int Go.IntKind.u8 (Int.ofNat 0), Go.Value.int Go.IntKind.u8 (Int.ofNat 0), Go.Value.int Go.IntKind.u8 (Int.ofNat 0), Go.Value.int Go.IntKind.u8 (Int.ofNat 0), Go.Value.int Go.IntKind.u8 (Int.ofNat 0), Go.Value.int Go.IntKind.u8 (Int.ofNat 0), Go.Value.int Go.IntKind.u8 (Int.ofNat 0), Go.Value.int Go.IntKind.u8 (Int.ofNat 0), Go.Value.int Go.IntKind.u8 (Int.ofNat 0), Go.Value.int Go.IntKind.u8 (Int.ofNat 0), Go.Value.int Go.IntKind.u8 (Int.ofNat 0), Go.Value.int Go.IntKind.u8 (Int.ofNat 0), Go.Value.int Go.IntKind.u8 (Int.ofNat 0), Go.Value.int Go.IntKind.u8 (Int.ofNat 0), Go.Value.int Go.IntKind.u8 (Int.ofNat 0), Go.Value.int Go.IntKind.u8 (Int.ofNat 0), Go.Value.int Go.IntKind.u8 (Int.ofNat 0), Go.Value.int Go.IntKind.u8 (Int.ofNat 0), Go.Value.int Go.IntKind.u8 (Int.ofNat 0), Go.Value.int Go.IntKind.u8 (Int.ofNat 0), Go.Value.int Go.IntKind.u8 (Int.ofNat 0), Go.Value.int Go.IntKind.u8 (Int.ofNat 0), Go.Value.int Go.IntKind.u8 (Int.ofNat 0), Go.Value.int Go.IntKind.u8 (Int.ofNat 0), Go.Value.int Go.IntKind.u8 (Int.ofNat 0), Go.Value.int Go.IntKind.u8 (Int.ofNat 0), Go.Value.int Go.IntKind.u8 (Int.ofNat 0), Go.Value.int Go.IntKind.u8 (Int.ofNat 0), Go.Value.int Go.IntKind.u8 (Int.ofNat 0), Go.Value.int Go.IntKind.u8 (Int.ofNat 0), Go.Value.int Go.IntKind.u8 (Int.ofNat 0), Go.Value.int Go.IntKind.u8 (Int.ofNat 0), Go.Value.int Go.IntKind.u8 (Int.ofNat 0), Go.Value.int Go.IntKind.u8 (Int.ofNat 0), Go.Value.int Go.IntKind.u8 (Int.ofNat 0), Go.Value.int Go.IntKind.u8 (Int.ofNat 0), Go.Value.int Go.IntKind.u8 (Int.ofNat 0), Go.Value.int Go.IntKind.u8 (Int.ofNat 0), Go.Value.int Go.IntKind.u8 (Int.ofNat 0), Go.Value.int Go.IntKind.u8 (Int.ofNat 0), Go.Value.int Go.IntKind.u8 (Int.ofNat 0), Go.Value.int Go.IntKind.u8 (Int.ofNat 0), Go.Value.int Go.IntKind.u8 (Int.ofNat 0), Go.Value.int Go.IntKind.u8 (Int.ofNat 0), Go.Value.int Go.IntKind.u8 (Int.ofNat 0), Go.Value.int Go.IntKind.u8 (Int.ofNat 0), Go.Value.int Go.IntKind.u8 (Int.ofNat 0), Go.Value.int Go.IntKind.u8 (Int.ofNat 0), Go.Value.int Go.IntKind.u8 (Int.ofNat 0), Go.Value.int Go.IntKind.u8 (Int.ofNat 0), Go.Value.int Go.IntKind.u8 (Int.ofNat 0), Go.Value.int Go.IntKind.u8 (Int.ofNat 0), Go.Value.int Go.IntKind.u8 (Int.ofNat 0), Go.Value.int Go.IntKind.u8 (Int.ofNat 0), Go.Value.int Go.IntKind.u8 (Int.ofNat 0), Go.Value.int Go.IntKind.u8 (Int.ofNat 0), Go.Value.int Go.IntKind.u8 (Int.ofNat 0), Go.Value.int Go.IntKind.u8 (Int.ofNat 0), Go.Value.int Go.IntKind.u8 (Int.ofNat 0), Go.Value.int Go.IntKind.u8 (Int.ofNat 0), Go.Value.int Go.IntKind.u8 (Int.ofNat 0), Go.Value.int Go.IntKind.u8 (Int.ofNat 0), Go.Value.int Go.IntKind.u8 (Int.ofNat 0), Go.Value.int Go.IntKind.u8 (Int.ofNat 0), Go.Value.int Go.IntKind.u8 (Int.ofNat 0), Go.Value.int Go.IntKind.u8 (Int.ofNat 0), Go.Value.int Go.IntKind.u8 (Int.ofNat 0), Go.Value.int Go.IntKind.u8 (Int.ofNat 0), Go.Value.int Go.IntKind.u8 (Int.ofNat 0), Go.Value.int Go.IntKind.u8 (Int.ofNat 0), Go.Value.int Go.IntKind.u8 (Int.ofNat 0), Go.Value.int Go.IntKind.u8 (Int.ofNat 0), Go.Value.int Go.IntKind.u8 (Int.ofNat 0), Go.Value.int Go.IntKind.u8 (Int.ofNat 0), Go.Value.int Go.IntKind.u8 (Int.ofNat 0), Go.Value.int Go.IntKind.u8 (Int.ofNat 0), Go.Value.int Go.IntKind.u8 (Int.ofNat 0), Go.Value.int Go.IntKind.u8 (Int.ofNat 0), Go.Value.int Go.IntKind.u8 (Int.ofNat 0), Go.Value.int Go.IntKind.u8 (Int.ofNat 0), Go.Value.int Go.IntKind.u8 (Int.ofNat 0), Go.Value.int Go.IntKind.u8 (Int.ofNat 0), Go.Value.int Go.IntKind.u8 (Int.ofNat 0), Go.Value.int Go.IntKind.u8 (Int.ofNat 0), Go.Value.int Go.IntKind.u8 (Int.ofNat 0), Go.Value.int Go.IntKind.u8 (Int.ofNat 0), Go.Value.int Go.IntKind.u8 (Int.ofNat 0), Go.Value.int Go.IntKind.u8 (Int.ofNat 0), Go.Value.int Go.IntKind.u8 (Int.ofNat 0), Go.Value.int Go.IntKind.u8 (Int.ofNat 0), Go.Value.int Go.IntKind.u8 (Int.ofNat 0), Go.Value.int Go.IntKind.u8 (Int.ofNat 0), Go.Value.int Go.IntKind.u8 (Int.ofNat 0), Go.Value.int Go.IntKind.u8 (Int.ofNat 0), Go.Value.int Go.IntKind.u8 (Int.ofNat 0), Go.Value.int Go.IntKind.u8 (Int.ofNat 0), Go.Value.int Go.IntKind.u8 (Int.ofNat 0), Go.Value.int Go.IntKind.u8 (Int.ofNat 0), Go.Value.int Go.IntKind.u8 (Int.ofNat 0), Go.Value.int Go.IntKind.u8 (Int.ofNat 0), Go.Value.int Go.IntKind.u8 (Int.ofNat 0), Go.Value.int Go.IntKind.u8 (Int.ofNat 0), Go.Value.int Go.IntKind.u8 (Int.ofNat 0), Go.Value.int Go.IntKind.u8 (Int.ofNat 0), Go.Value.int Go.IntKind.u8 (Int.ofNat 0), Go.Value.int Go.IntKind.u8 (Int.ofNat 0), Go.Value.int Go.IntKind.u8 (Int.ofNat 0), Go.Value.int Go.IntKind.u8 (Int.ofNat 0), Go.Value.int Go.IntKind.u8 (Int.ofNat 0), Go.Value.int Go.IntKind.u8 (Int.ofNat 0), Go.Value.int Go.IntKind.u8 (Int.ofNat 0), Go.Value.int Go.IntKind.u8 (Int.ofNat 0), Go.Value.int Go.IntKind.u8 (Int.ofNat 0), Go.Value.int Go.IntKind.u8 (Int.ofNat 0), Go.Value.int Go.IntKind.u8 (Int.ofNat 0), Go.Value.int Go.IntKind.u8 (Int.ofNat 0), Go.Value.int Go.IntKind.u8 (Int.ofNat 0), Go.Value.int Go.IntKind.u8 (Int.ofNat 0), Go.Value.int Go.IntKind.u8 (Int.ofNat 0), Go.Value.int Go.IntKind.u8 (Int.ofNat 0), Go.Value.int Go.IntKind.u8 (Int.ofNat 0), Go.Value.int Go.IntKind.u8 (Int.ofNat 0), Go.Value.int Go.IntKind.u8 (Int.ofNat 0), Go.Value.int Go.IntKind.u8 (Int.ofNat 0), Go.Value.int Go.IntKind.u8 (Int.ofNat 0), Go.Value.int Go.IntKind.u8 (Int.ofNat 0), Go.Value.int Go.IntKind.u8 (Int.ofNat 0), Go.Value.int Go.IntKind.u8 (Int.ofNat 0), Go.Value.int Go.IntKind.u8 (Int.ofNat 0), Go.Value.int Go.IntKind.u8 (Int.ofNat 0), Go.Value.int Go.IntKind.u8 (Int.ofNat 0), Go.Value.int Go.IntKind.u8 (Int.ofNat 0), Go.Value.int Go.IntKind.u8 (Int.ofNat 0), Go.Value.int Go.IntKind.u8 (Int.ofNat 0), Go.Value.int Go.IntKind.u8 (Int.ofNat 0), Go.Value.int Go.IntKind.u8 (Int.ofNat 0), Go.Value.int Go.IntKind.u8 (Int.ofNat 0)] := by kernel_rfl
theorem zc_243 : zcK Tryz.prog 243 = Option.some [Go.Value.int Go.IntKind.u8 (Int.ofNat 0), Go.Value.int Go.IntKind.u8 (Int.ofNat 0)] := by kernel_rfl
theorem zc_244 : zcK Tryz.prog 244 = Option.some [Go.Value.int Go.IntKind.u8 (Int.ofNat 0), Go.Value.int Go.IntKind.u8 (Int.ofNat 0)] := by kernel_rfl
theorem zc_245 : zcK Tryz.prog 245 = Option.some [Go.Value.int Go.IntKind.u8 (Int.ofNat 0), Go.Value.int Go.IntKind.u8 (Int.ofNat 0), Go.Value.int Go.IntKind.u8 (Int.ofNat 0), Go.Value.int Go.IntKind.u8 (Int.ofNat 0), Go.Value.int Go.IntKind.u8 (Int.ofNat 0), Go.Value.int Go.IntKind.u8 (Int.ofNat 0), Go.Value.int Go.IntKind.u8 (Int.ofNat 0), Go.Value.int Go.IntKind.u8 (Int.ofNat 0), Go.Value.int Go.IntKind.u8 (Int.ofNat 0), Go.Value.int Go.IntKind.u8 (Int.ofNat 0), Go.Value.int Go.IntKind.u8 (Int.ofNat 0), Go.Value.int Go.IntKind.u8 (Int.ofNat 0), Go.Value.int Go.IntKind.u8 (Int.ofNat 0), Go.Value.int Go.IntKind.u8 (Int.ofNat 0), Go.Value.int Go.IntKind.u8 (Int.ofNat 0), Go.Value.int Go.IntKind.u8 (Int.ofNat 0), Go.Value.int Go.IntKind.u8 (Int.ofNat 0), Go.Value.int Go.IntKind.u8 (Int.ofNat 0), Go.Value.int Go.IntKind.u8 (Int.ofNat 0), Go.Value.int Go.IntKind.u8 (Int.ofNat 0), Go.Value.int Go.IntKind.u8 (Int.ofNat 0), Go.Value.int Go.IntKind.u8 (Int.ofNat 0), Go.Value.int Go.IntKind.u8 (Int.ofNat 0), Go.Value.int Go.IntKind.u8 (Int.ofNat 0), Go.Value.int Go.IntKind.u8 (Int.ofNat 0), Go.Value.int Go.IntKind.u8 (Int.ofNat 0), Go.Value.int Go.IntKind.u8 (Int.ofNat 0), Go.Value.int Go.IntKind.u8 (Int.ofNat 0), Go.Value.int Go.IntKind.u8 (Int.ofNat 0), Go.Value.int Go.IntKind.u8 (Int.ofNat 0), Go.Value.int Go.IntKind.u8 (Int.ofNat 0), Go.Value.int Go.IntKind.u8 (Int.ofNat 0)] := by kernel_rfl
theorem zc_25 : zcK Tryz.prog 25 = Option.some [Go.Value.int Go.IntKind.u64 (Int.ofNat 0)] := by kernel_rfl
theorem zc_250 : zcK Tryz.prog 250 = Option.some [Go.Value.pointer Option.none, Go.Value.pointer Option.none, Go.Value.pointer Option.none, Go.Value.string { data := { toList := [] } }] := by kernel_rfl
theorem zc_251 : zcK Tryz.prog 251 = Option.some [Go.Value.pointer Option.none, Go.Value.pointer Option.none, Go.Value.pointer Option.none, Go.Value.string { data := { toList := [] } }] := by kernel_rfl
theorem zc_252 : zcK Tryz.prog 252 = Option.some [] := by kernel_rfl
theorem zc_253 : zcK Tryz.prog 253 = Option.some [] := by kernel_rfl
theorem zc_254 : zcK Tryz.prog 254 = Option.some [] := by kernel_rfl
theorem zc_257 : zcK Tryz.prog 257 = Option.some [Go.Value.int Go.IntKind.u32 (Int.ofNat 0)] := by kernel_rfl
theorem zc_258 : zcK Tryz.prog 258 = Option.some [Go.Value.int Go.IntKind.u8 (Int.ofNat 0)] := by kernel_rfl
theorem zc_26 : zcK Tryz.prog 26 = Option.some [Go.Value.slice Option.none 0 0] := by kernel_rfl
theorem zc_27 : zcK Tryz.prog 27 = Option.some [Go.Value.slice Option.none 0 0] := by kernel_rfl
theorem zc_28 : zcK Tryz.prog 28 = Option.some [Go.Value.slice Option.none 0 0] := by kernel_rfl
theorem zc_29 : zcK Tryz.prog 29 = Option.some [Go.Value.string { data := { toList := [] } }, Go.Value.string { data := { toList := [] } }, Go.Value.int Go.IntKind.u64 (Int.ofNat 0), Go.Value.int Go.IntKind.u64 (Int.ofNat 0), Go.Value.slice Option.none 0 0, Go.Value.slice Option.none 0 0, Go.Value.slice Option.none 0 0] := by kernel_rfl
theorem zc_3 : zcK Tryz.prog 3 = Option.some [Go.Value.int Go.IntKind.i64 (Int.ofNat 0)] := by kernel_rfl
theorem zc_30 : zcK Tryz.prog 30 = Option.some [Go.Value.string { data := { toList := [] } }, Go.Value.string { data := { toList := [] } }, Go.Value.int Go.IntKind.u64 (Int.ofNat 0), Go.Value.int Go.IntKind.u64 (Int.ofNat 0), Go.Value.slice Option.none 0 0, Go.Value.slice Option.none 0 0, Go.Value.slice Option.none 0 0] := by kernel_rfl
theorem zc_31 : zcK Tryz.prog 31 = Option.some [Go.Value.int Go.IntKind.i64 (Int.ofNat 0)] := by kernel_rfl
theorem zc_34 : zcK Tryz.prog 34 = Option.some [Go.Value.pointer Option.none] := by kernel_rfl
theorem zc_35 : zcK Tryz.prog 35 = Option.some [Go.Value.slice Option.none 0 0] := by kernel_rfl
theorem zc_36 : zcK Tryz.prog 36 = Option.some [Go.Value.int Go.IntKind.u64 (Int.ofNat 0), Go.Value.int Go.IntKind.u64 (Int.ofNat 0), Go.Value.int Go.IntKind.u64 (Int.ofNat 0), Go.Value.int Go.IntKind.u64 (Int.ofNat 0), Go.Value.int Go.IntKind.u64 (Int.ofNat 0), Go.Value.int Go.IntKind.u64 (Int.ofNat 0), Go.Value.int Go.IntKind.u64 (Int.ofNat 0), Go.Value.int Go.IntKind.u64 (Int.ofNat 0), Go.Value.int Go.IntKind.u64 (Int.ofNat 0), Go.Value.int Go.IntKind.u64 (Int.ofNat 0)] := by kernel_rfl
theorem zc_37 : zcK Tryz.prog 37 = Option.some [Go.Value.bool Bool.false, Go.Value.bool Bool.false] := by kernel_rfl
theorem zc_38 : zcK Tryz.prog 38 = Option.some [Go.Value.int Go.IntKind.u64 (Int.ofNat 0), Go.Value.int Go.IntKind.u64 (Int.ofNat 0)] := by kernel_rfl
theorem zc_39 : zcK Tryz.prog 39 = Option.some [Go.Value.string { data := { toList := [] } }, Go.Value.string { data := { toList := [] } }, Go.Value.int Go.IntKind.u64 (Int.ofNat 0), Go.Value.int Go.IntKind.u64 (Int.ofNat 0), Go.Value.slice Option.none 0 0, Go.Value.int Go.IntKind.u64 (Int.ofNat 0), Go.Value.int Go.IntKind.u64 (Int.ofNat 0), Go.Value.int Go.IntKind.u64 (Int.ofNat 0), Go.Value.int Go.IntKind.u64 (Int.ofNat 0), Go.Value.int Go.IntKind.u64 (Int.ofNat 0), Go.Value.int Go.IntKind.u64 (Int.ofNat 0), Go.Value.int Go.IntKind.u64 (Int.ofNat 0), Go.Value.int Go.IntKind.u64 (Int.ofNat 0), Go.Value.int Go.IntKind.u64 (Int.ofNat 0), Go.Value.int Go.IntKind.u64 (Int.ofNat 0), Go.Value.bool Bool.false, Go.Value.bool Bool.false, Go.Value.int Go.IntKind.u64 (Int.ofNat 0), Go.Value.int Go.IntKind.u64 (Int.ofNat 0)] := by kernel_rfl
theorem zc_4 : zcK Tryz.prog 4 = Option.some [Go.Value.bool Bool.false] := by kernel_rfl
theorem zc_40 : zcK Tryz.prog 40 = Option.some [Go.Value.string { data := { toList := [] } }, Go.Value.string { data := { toList := [] } }, Go.Value.int Go.IntKind.u64 (Int.ofNat 0), Go.Value.int Go.IntKind.u64 (Int.ofNat 0), Go.Value.slice Option.none 0 0, Go.Value.int Go.IntKind.u64 (Int.ofNat 0), Go.Value.int Go.IntKind.u64 (Int.ofNat 0), Go.Value.int Go.IntKind.u64 (Int.ofNat 0), Go.Value.int Go.IntKind.u64 (Int.ofNat 0), Go.Value.int Go.IntKind.u64 (Int.ofNat 0), Go.Value.int Go.IntKind.u64 (Int.ofNat 0), Go.Value.int Go.IntKind.u64 (Int.ofNat 0), Go.Value.int Go.IntKind.u64 (Int.ofNat 0), Go.Value.int Go.IntKind.u64 (Int.ofNat 0), Go.Value.int Go.IntKind.u64 (Int.ofNat 0), Go.Value.bool Bool.false, Go.Value.bool Bool.false, Go.Value.int Go.IntKind.u64 (Int.ofNat 0), Go.Value.int Go.IntKind.u64 (Int.ofNat 0)] := by kernel_rfl
theorem zc_41 : zcK Tryz.prog 41 = Option.some [Go.Value.slice Option.none 0 0] := by kernel_rfl
theorem zc_42 : zcK Tryz.prog 42 = Option.some [Go.Value.int Go.IntKind.u64 (Int.ofNat 0), Go.Value.int Go.IntKind.u64 (Int.ofNat 0), Go.Value.int Go.IntKind.u64 (Int.ofNat 0), Go.Value.int Go.IntKind.u64 (Int.ofNat 0)] := by kernel_rfl
theorem zc_43 : zcK Tryz.prog 43 = Option.some [Go.Value.slice Option.none 0 0, Go.Value.slice Option.none 0 0, Go.Value.int Go.IntKind.u64 (Int.ofNat 0), Go.Value.int Go.IntKind.u64 (Int.ofNat 0), Go.Value.int Go.IntKind.u64 (Int.ofNat 0), Go.Value.int Go.IntKind.u64 (Int.ofNat 0)] := by kernel_rfl
theorem zc_44 : zcK Tryz.prog 44 = Option.some [Go.Value.slice Option.none 0 0, Go.Value.slice Option.none 0 0, Go.Value.int Go.IntKind.u64 (Int.ofNat 0), Go.Value.int Go.IntKind.u64 (Int.ofNat 0), Go.Value.int Go.IntKind.u64 (Int.ofNat 0), Go.Value.int Go.IntKind.u64 (Int.ofNat 0)] := by kernel_rfl
theorem zc_45 : zcK Tryz.prog 45 = Option.some [Go.Value.int Go.IntKind.i64 (Int.ofNat 0), Go.Value.int Go.IntKind.i64 (Int.ofNat 0), Go.Value.int Go.IntKind.i64 (Int.ofNat 0), Go.Value.int Go.IntKind.i64 (Int.ofNat 0), Go.Value.int Go.IntKind.i64 (Int.ofNat 0)] := by kernel_rfl
theorem zc_46 : zcK Tryz.prog 46 = Option.some [Go.Value.int Go.IntKind.i64 (Int.ofNat 0), Go.Value.int Go.IntKind.i64 (Int.ofNat 0), Go.Value.int Go.IntKind.i64 (Int.ofNat 0), Go.Value.int Go.IntKind.i64 (Int.ofNat 0), Go.Value.int Go.IntKind.i64 (Int.ofNat 0)] := by kernel_rfl
theorem zc_5 : zcK Tryz.prog 5 = Option.some [Go.Value.int Go.IntKind.u8 (Int.ofNat 0)] := by kernel_rfl
theorem zc_52 : zcK Tryz.prog 52 = Option.some [Go.Value.slice Option.none 0 0] := by kernel_rfl
theorem zc_54 : zcK Tryz.prog 54 = Option.some [Go.Value.slice Option.none 0 0] := by kernel_rfl
theorem zc_55 : zcK Tryz.prog 55 = Option.some [Go.Value.int Go.IntKind.i64 (Int.ofNat 0)] := by kernel_rfl
theorem zc_56 : zcK Tryz.prog 56 = Option.some [Go.Value.int Go.IntKind.i64 (Int.ofNat 0), Go.Value.int Go.IntKind.u64 (Int.ofNat 0), Go.Value.int Go.IntKind.u64 (Int.ofNat 0), Go.Value.int Go.IntKind.u64 (Int.ofNat 0), Go.Value.string { data := { toList := [] } }, Go.Value.slice Option.none 0 0, Go.Value.int Go.IntKind.u64 (Int.ofNat 0), Go.Value.int Go.IntKind.i64 (Int.ofNat 0), Go.Value.string { data := { toList := [] } }, Go.Value.int Go.IntKind.u64 (Int.ofNat 0)] := by kernel_rfl
theorem zc_57 : zcK Tryz.prog 57 = Option.some [Go.Value.int Go.IntKind.i64 (Int.ofNat 0), Go.Value.int Go.IntKind.u64 (Int.ofNat 0), Go.Value.int Go.IntKind.u64 (Int.ofNat 0), Go.Value.int Go.IntKind.u64 (Int.ofNat 0), Go.Value.string { data := { toList := [] } }, Go.Value.slice Option.none 0 0, Go.Value.int Go.IntKind.u64 (Int.ofNat 0), Go.Value.int Go.IntKind.i64 (Int.ofNat 0), Go.Value.string { data := { toList := [] } }, Go.Value.int Go.IntKind.u64 (Int.ofNat 0)] := by kernel_rfl
theorem zc_6 : zcK Tryz.prog 6 = Option.some [Go.Value.int Go.IntKind.u8 (Int.ofNat 0)] := by kernel_rfl
theorem zc_64 : zcK Tryz.prog 64 = Option.some [Go.Value.string { data := { toList := [] } }, Go.Value.int Go.IntKind.u64 (Int.ofNat 0)] := by kernel_rfl
theorem zc_65 : zcK Tryz.prog 65 = Option.some [Go.Value.string { data := { toList := [] } }, Go.Value.int Go.IntKind.u64 (Int.ofNat 0)] := by kernel_rfl
theorem zc_66 : zcK Tryz.prog 66 = Option.some [Go.Value.int Go.IntKind.u64 (Int.ofNat 0), Go.Value.int Go.IntKind.u64 (Int.ofNat 0), Go.Value.bool Bool.false, Go.Value.int Go.IntKind.u64 (Int.ofNat 0)] := by kernel_rfl
theorem zc_67 : zcK Tryz.prog 67 = Option.some [Go.Value.int Go.IntKind.u64 (Int.ofNat 0), Go.Value.int Go.IntKind.u64 (Int.ofNat 0), Go.Value.bool Bool.false, Go.Value.int Go.IntKind.u64 (Int.ofNat 0)] := by kernel_rfl
theorem zc_7 : zcK Tryz.prog 7 = Option.some [Go.Value.int Go.IntKind.i64 (Int.ofNat 0), Go.Value.int Go.IntKind.i64 (Int.ofNat 0), Go.Value.bool Bool.false, Go.Value.int Go.IntKind.u8 (Int.ofNat 0)] := by kernel_rfl
theorem zc_76 : zcK Tryz.prog 76 = Option.some [Go.Value.int Go.IntKind.i64 (Int.ofNat 0), Go.Value.int Go.IntKind.u64 (Int.ofNat 0), Go.Value.bool Bool.false, Go.Value.slice Option.none 0 0] := by kernel_rfl
theorem zc_77 : zcK Tryz.prog 77 = Option.some [Go.Value.int Go.IntKind.i64 (Int.ofNat 0), Go.Value.int Go.IntKind.u64 (Int.ofNat 0), Go.Value.bool Bool.false, Go.Value.slice Option.none 0 0] := by kernel_rfl
theorem zc_8 : zcK Tryz.prog 8 = Option.some [Go.Value.int Go.IntKind.i64 (Int.ofNat 0), Go.Value.int Go.IntKind.i64 (Int.ofNat 0), Go.Value.bool Bool.false, Go.Value.int Go.IntKind.u8 (Int.ofNat 0)] := by kernel_rfl
theorem zc_83 : zcK Tryz.prog 83 = Option.some [Go.Value.int Go.IntKind.u64 (Int.ofNat 0), Go.Value.string { data := { toList := [] } }, Go.Value.slice Option.none 0 0, Go.Value.int Go.IntKind.u64 (Int.ofNat 0), Go.Value.int Go.IntKind.u64 (Int.ofNat 0)] := by kernel_rfl
theorem zc_84 : zcK Tryz.prog 84 = Option.some [Go.Value.int Go.IntKind.u64 (Int.ofNat 0), Go.Value.string { data := { toList := [] } }, Go.Value.slice Option.none 0 0, Go.Value.int Go.IntKind.u64 (Int.ofNat 0), Go.Value.int Go.IntKind.u64 (Int.ofNat 0)] := by kernel_rfl
theorem zc_85 : zcK Tryz.prog 85 = Option.some [Go.Value.nilIface] := by kernel_rfl
theorem zc_86 : zcK Tryz.prog 86 = Option.some [Go.Value.nilIface] := by kernel_rfl
theorem zc_9 : zcK Tryz.prog 9 = Option.some [Go.Value.string { data := { toList := [] } }] := by kernel_rfl
theorem zc_91 : zcK Tryz.prog 91 = Option.some [Go.Value.slice Option.none 0 0] := by kernel_rfl
theorem mixed : Tryz.prog.follows .mixedOrders = true := by kernel_rfl
end Go.Proofs.YtkdmbimkanjbhaaGreatDoor.Eng
namespace Go.Proofs.YtkdmbimkanjbhaaGreatDoor.Eng
open Go Go.Proofs
/-! ### short names for steps that come again and again -/
theorem om {p : Prop} (h : p := by omega) : p := h
theorem ao {p : Prop} (h : p := by first | assumption | omega) : p := h
theorem mo {p : Prop} (h : p := by simp only [maxLen]; omega) : p := h
theorem kr {p : Prop} (h : p := by kernel_rfl) : p := h
theorem pk {H H' : List Item} {it : Item} (h : Pick H it H' := by repeat (first | exact Pick.hd | apply Pick.tl)) : Pick H it H' := h
section
variable {P : Program} {c : Cx} {K : Act → World → Prop} {Q R : Exit → Act → World → Prop} {E : Env} {H : List Item} {S : Stone} {ops : Array Oper} {l rest : List Oper} {ty : TypeId} {pos : String} {aft : Array Edge}
theorem ne {next : Act → World → Prop} (h : Tr c next E H S) : Tr c (wpList P ops (Exit.then next Q) []) E H S := l_nil (e_then h)
theorem sr {y : Code} {id : Nat} (h : Tr c (wpList P l.toArray (Exit.then (y.wp P Q) Q) l) E H S) : Tr c ((Code.seq (Code.region id l.toArray false) y).wp P Q) E H S := c_seq (c_region h)
theorem nes {x y : Code} (h : Tr c (x.wp P (Exit.then (y.wp P Q) Q)) E H S) : Tr c (wpList P ops (Exit.then ((Code.seq x y).wp P Q) R) []) E H S := ne (c_seq h)
theorem nesr {y : Code} {id : Nat} (h : Tr c (wpList P l.toArray (Exit.then (y.wp P Q) Q) l) E H S) : Tr c (wpList P ops (Exit.then ((Code.seq (Code.region id l.toArray false) y).wp P Q) R) []) E H S := ne (sr h)
theorem ner {id : Nat} (h : Tr c (wpList P l.toArray Q l) E H S) : Tr c (wpList P ops (Exit.then ((Code.region id l.toArray false).wp P Q) R) []) E H S := ne (c_region h)
theorem nec {x : Operand} {s t : Code} {b : Bool} (hx : E.op x = some (.bool b)) (ht : b = true → Tr c (s.wp P Q) E H S) (hf : b = false → Tr c (t.wp P Q) E H S) : Tr c (wpList P ops (Exit.then ((Code.cond x s t).wp P Q) R) []) E H S := ne (c_cond hx ht hf)
theorem netr (h : Tr c (Q .ret) E H S) : Tr c (wpList P ops (Exit.then (Code.ret.wp P Q) R) []) E H S := ne (c_ret h)
section
variable {d : Tmp} {op : Op} {x : Operand} {v : Value}
theorem mv (hx : E.op x = some v) (h : Tr c (wpList P ops Q rest) ((d, v) :: E) H S) (hlt : Nat.blt d c.n = true := by rfl) : Tr c (wpList P ops Q (⟨some d, .move x, ty, pos, aft, none⟩ :: rest)) E H S := ly (y_move hx) h rfl rfl hlt
theorem sa (hx : E.op x = some v) (h : Tr c (wpList P ops Q rest) ((d, v) :: E) H S) (hlt : Nat.blt d c.n = true := by rfl) : Tr c (wpList P ops Q (⟨some d, .assign x, ty, pos, aft, none⟩ :: rest)) E H S := ly (y_assign hx) h rfl rfl hlt
theorem yy (hy : Yld P E ⟨some d, op, ty, pos, aft, none⟩ v) (h : Tr c (wpList P ops Q rest) ((d, v) :: E) H S) (hlt : Nat.blt d c.n = true := by rfl) : Tr c (wpList P ops Q (⟨some d, op, ty, pos, aft, none⟩ :: rest)) E H S := ly hy h rfl rfl hlt
theorem yl (hy : Ld P E H S ⟨some d, op, ty, pos, aft, none⟩ v) (h : Tr c (wpList P ops Q rest) ((d, v) :: E) H S) (hlt : Nat.blt d c.n = true := by rfl) : Tr c (wpList P ops Q (⟨some d, op, ty, pos, aft, none⟩ :: rest)) E H S := ll hy h rfl rfl hlt
theorem qy {gd : Nat} {want b : Bool} {g : Option (Nat × Bool)} (hw : b = want) (hy : Yld P E ⟨some d, op, ty, pos, aft, g⟩ v) (h : Tr c (wpList P ops Q rest) ((d, v) :: E) H S) (hg : gslot ops ⟨some d, op, ty, pos, aft, g⟩ = some (gd, want) := by rfl) (hb : E.lk gd = some (.bool b) := by rfl) (hlt : Nat.blt d c.n = true := by rfl) : Tr c (wpList P ops Q (⟨some d, op, ty, pos, aft, g⟩ :: rest)) E H S := gy hw hy h hg hb rfl hlt
theorem ql {gd : Nat} {want b : Bool} {g : Option (Nat × Bool)} (hw : b = want) (hy : Ld P E H S ⟨some d, op, ty, pos, aft, g⟩ v) (h : Tr c (wpList P ops Q rest) ((d, v) :: E) H S) (hg : gslot ops ⟨some d, op, ty, pos, aft, g⟩ = some (gd, want) := by rfl) (hb : E.lk gd = some (.bool b) := by rfl) (hlt : Nat.blt d c.n = true := by rfl) : Tr c (wpList P ops Q (⟨some d, op, ty, pos, aft, g⟩ :: rest)) E H S := gl hw hy h hg hb rfl hlt
theorem qn {gd : Nat} {want b : Bool} {g : Option (Nat × Bool)} (hw : b = !want) (h : Tr c (wpList P ops Q rest) ((d, undef) :: E) H S) (hg : gslot ops ⟨some d, op, ty, pos, aft, g⟩ = some (gd, want) := by rfl) (hb : E.lk gd = some (.bool b) := by rfl) (hlt : Nat.blt d c.n = true := by rfl) : Tr c (wpList P ops Q (⟨some d, op, ty, pos, aft, g⟩ :: rest)) E H S := gn hw h hg hb rfl hlt
theorem qu {gd : Nat} {want : Bool} {g : Option (Nat × Bool)} (h : Tr c (wpList P ops Q rest) ((d, undef) :: E) H S) (hg : gslot ops ⟨some d, op, ty, pos, aft, g⟩ = some (gd, want) := by rfl) (hb : E.lk gd = some undef := by rfl) (hlt : Nat.blt d c.n = true := by rfl) : Tr c (wpList P ops Q (⟨some d, op, ty, pos, aft, g⟩ :: rest)) E H S := gu h hg hb rfl hlt
theorem al {e : TypeId} {zs : List Value} (hz : zcK P e = some zs) (h : ∀ b, Tr c (wpList P ops Q rest) ((d, .pointer (some ⟨b, 0, none⟩)) :: E) (.blk b (.cells zs.toArray e (0, 0)) :: H) S) (hlt : Nat.blt d c.n = true := by rfl) : Tr c (wpList P ops Q (⟨some d, .alloc e, ty, pos, aft, none⟩ :: rest)) E H S := lw (t_alloc hz (lt_n hlt) h) rfl
theorem bx {e : TypeId} {cs : List Value} (hx : E.op x = some v) (hc : v.cells = cs.toArray) (h : ∀ b, Tr c (wpList P ops Q rest) ((d, .pointer (some ⟨b, 0, none⟩)) :: E) (.blk b (.cells cs.toArray e (0, 0)) :: H) S) (hlt : Nat.blt d c.n = true := by rfl) : Tr c (wpList P ops Q (⟨some d, .box e x, ty, pos, aft, none⟩ :: rest)) E H S := lw (t_box hx hc (lt_n hlt) h) rfl
theorem tal {e : TypeId} {zs : List Value} {g : Option (Nat × Bool)} (hz : zcK P e = some zs) (h : ∀ b, Tr c K ((d, .pointer (some ⟨b, 0, none⟩)) :: E) (.blk b (.cells zs.toArray e (0, 0)) :: H) S) (hlt : Nat.blt d c.n = true := by rfl) : Tr c (OpW P ⟨some d, .alloc e, ty, pos, aft, g⟩ K Q) E H S := t_alloc hz (lt_n hlt) h
end
section
variable {T : List Nat} {HT : List Item} {ST : Stone} {W : World → Prop} {p q : Plan} {i gd : Nat} {want b : Bool} {v : Value} {d : Tmp} {op : Op} {x : Operand} {g : Option (Nat × Bool)}
theorem em (ho : l[i]? = some ⟨some d, .move x, ty, pos, aft, none⟩) (hx : E.op x = some v) (h : Tr c (planP P l.toArray Q W T p) ((d, v) :: E) H S) (hlt : Nat.blt d c.n = true := by rfl) : Tr c (planP P l.toArray Q W T (.take i p)) E H S := dy ho (y_move hx) h rfl rfl hlt
theorem ea (ho : l[i]? = some ⟨some d, .assign x, ty, pos, aft, none⟩) (hx : E.op x = some v) (h : Tr c (planP P l.toArray Q W T p) ((d, v) :: E) H S) (hlt : Nat.blt d c.n = true := by rfl) : Tr c (planP P l.toArray Q W T (.take i p)) E H S := dy ho (y_assign hx) h rfl rfl hlt
theorem ey (ho : l[i]? = some ⟨some d, op, ty, pos, aft, none⟩) (hy : Yld P E ⟨some d, op, ty, pos, aft, none⟩ v) (h : Tr c (planP P l.toArray Q W T p) ((d, v) :: E) H S) (hlt : Nat.blt d c.n = true := by rfl) : Tr c (planP P l.toArray Q W T (.take i p)) E H S := dy ho hy h rfl rfl hlt
theorem egy (ho : l[i]? = some ⟨some d, op, ty, pos, aft, g⟩) (hw : b = want) (hy : Yld P E ⟨some d, op, ty, pos, aft, g⟩ v) (h : Tr c (planP P l.toArray Q W T p) ((d, v) :: E) H S) (hg : gslot l.toArray ⟨some d, op, ty, pos, aft, g⟩ = some (gd, want) := by rfl) (hb : E.lk gd = some (.bool b) := by rfl) (hlt : Nat.blt d c.n = true := by rfl) : Tr c (planP P l.toArray Q W T (.take i p)) E H S := dgy ho hw hy h hg hb rfl hlt
theorem zn (ho : l[i]? = some ⟨some d, op, ty, pos, aft, g⟩) (hw : b = !want) (h : Tr c (planP P l.toArray Q W T p) ((d, undef) :: E) H S) (hg : gslot l.toArray ⟨some d, op, ty, pos, aft, g⟩ = some (gd, want) := by rfl) (hb : E.lk gd = some (.bool b) := by rfl) (hlt : Nat.blt d c.n = true := by rfl) : Tr c (planP P l.toArray Q W T (.take i p)) E H S := dn ho hw h hg hb rfl hlt
theorem zu (ho : l[i]? = some ⟨some d, op, ty, pos, aft, g⟩) (h : Tr c (planP P l.toArray Q W T p) ((d, undef) :: E) H S) (hg : gslot l.toArray ⟨some d, op, ty, pos, aft, g⟩ = some (gd, want) := by rfl) (hb : E.lk gd = some undef := by rfl) (hlt : Nat.blt d c.n = true := by rfl) : Tr c (planP P l.toArray Q W T (.take i p)) E H S := du ho h hg hb rfl hlt
theorem zan (ho : l[i]? = some ⟨some d, op, ty, pos, aft, g⟩) (hw : b = !want) (h : Tr c (planP P l.toArray Q W T p) ((d, undef) :: E) H S) (hg : gslot l.toArray ⟨some d, op, ty, pos, aft, g⟩ = some (gd, want) := by rfl) (hb : E.lk gd = some (.bool b) := by rfl) (hlt : Nat.blt d c.n = true := by rfl) : Tr c (planP P l.toArray Q W T (.alt i p .stop)) E H S := dan ho hw h hg hb rfl hlt
theorem zau (ho : l[i]? = some ⟨some d, op, ty, pos, aft, g⟩) (h : Tr c (planP P l.toArray Q W T p) ((d, undef) :: E) H S) (hg : gslot l.toArray ⟨some d, op, ty, pos, aft, g⟩ = some (gd, want) := by rfl) (hb : E.lk gd = some undef := by rfl) (hlt : Nat.blt d c.n = true := by rfl) : Tr c (planP P l.toArray Q W T (.alt i p .stop)) E H S := dau ho h hg hb rfl hlt
/-- Behind an operation that keeps what is held. -/
theorem dA {b : Bool} (hS : Stone.le ST S) (h : Tr c K E H S) (hk : b = true ∨ ∀ it ∈ HT, it ∈ H := by first | exact .inl (by decide +kernel) | exact .inr (fun _ h => h) | exact .inr (Have.mem (by repeat (first | exact Have.nil | refine Have.cons (by repeat (first | exact Pick.hd | apply Pick.tl)) ?_))) | exact .inr (fun _ h => by repeat (first | exact h | apply List.mem_cons_of_mem))) : Tr c (fun a' w' => (b = false → Has HT ST w') ∧ K a' w') E H S := d_and (hk.imp id fun h => ⟨h, hS⟩) h
theorem dR {id : Nat} {Q : Exit → Act → World → Prop} (HT : List Item) (T : List Nat) (p : Plan) (h : Tr c (planP Tryz.prog l.toArray Q (Has HT S) T p) E H S) (hc : (Region.noSelect l.toArray && p.chk l.toArray T true (Array.replicate l.toArray.size false) && decide (p.size ≤ l.toArray.size)) = true := by kernel_rfl)
    (hQ : ∀ c a a' w, Q (.panic c) a w → Q (.panic c) a' w := by intro _ _ _ _ hpp; obtain ⟨_, _, _, _, hpp, _⟩ := hpp; cases hpp) : Tr c ((Code.region id l.toArray true).wp Tryz.prog Q) E H S := d_region HT T p mixed hc hQ h
theorem dRa {id : Nat} {Q : Exit → Act → World → Prop} (T : List Nat) (p : Plan) (h : Tr c (planP Tryz.prog l.toArray Q (Has H S) T p) E H S) (hc : (Region.noSelect l.toArray && p.chk l.toArray T true (Array.replicate l.toArray.size false) && decide (p.size ≤ l.toArray.size)) = true := by kernel_rfl)
    (hQ : ∀ c a a' w, Q (.panic c) a w → Q (.panic c) a' w := by intro _ _ _ _ hpp; obtain ⟨_, _, _, _, hpp, _⟩ := hpp; cases hpp) : Tr c ((Code.region id l.toArray true).wp Tryz.prog Q) E H S := d_region_all T p mixed hc hQ h
end
section
variable {g : Option (Nat × Bool)} {t : TypeId} {x y : Operand} {b off m : Nat} {v : Value} {vs cs : List Value} {T : TypeId} {H' : List Item}
theorem sw (hk : szK P t = some m) (h : Tr c K E (.blk b (.cells vs.toArray T (0, 0)) :: H') S) (hx : E.op x = some (.pointer (some ⟨b, 0, none⟩)) := by rfl) (hy : E.op y = some v := by rfl)
    (hv : v.cells = vs.toArray := by rfl) (hl : vs.length = m := by rfl) (h1 : vs.all Value.oneCell' = true := by rfl) (hp : Pick H (.blk b (.cells cs.toArray T (0, 0))) H' := by repeat (first | exact Pick.hd | apply Pick.tl)) (hfit : cs.length = m := by rfl) : Tr c (OpW P ⟨none, .store t x y, ty, pos, aft, g⟩ K Q) E H S := t_stw hk hx hy hv hl h1 hp hfit h
theorem s1 (hk : szK P t = some 1) (h : Tr c K E (.blk b (.cells (cs.set off v).toArray T (0, 0)) :: H') S) (hx : E.op x = some (.pointer (some ⟨b, off, none⟩)) := by rfl) (hy : E.op y = some v := by rfl)
    (h1 : v.oneCell' = true := by rfl) (hp : Pick H (.blk b (.cells cs.toArray T (0, 0))) H' := by repeat (first | exact Pick.hd | apply Pick.tl)) (hfit : Nat.blt off cs.length = true := by rfl) : Tr c (OpW P ⟨none, .store t x y, ty, pos, aft, g⟩ K Q) E H S := t_st1' hk hx hy h1 hp hfit h
theorem s0 (hk : szK P t = some m) (h : Tr c K E (.blk b (.cells (cs.take off ++ vs ++ cs.drop (off + m)).toArray T (0, 0)) :: H') S) (hx : E.op x = some (.pointer (some ⟨b, off, none⟩)) := by rfl) (hy : E.op y = some v := by rfl)
    (hv : v.cells = vs.toArray := by rfl) (hl : vs.length = m := by rfl) (h1 : vs.all Value.oneCell' = true := by rfl) (hp : Pick H (.blk b (.cells cs.toArray T (0, 0))) H' := by repeat (first | exact Pick.hd | apply Pick.tl)) (hfit : Nat.ble (off + m) cs.length = true := by rfl) : Tr c (OpW P ⟨none, .store t x y, ty, pos, aft, g⟩ K Q) E H S := t_st' hk hx hy hv hl h1 hp hfit h
end
section
variable {od : Option Tmp} {g : Option (Nat × Bool)} {t u : TypeId} {x : Operand} {A : Option Addr} {n m : Nat} {k : TypeId × Nat}
theorem y_ln (hk : slK P u = some k) (hx : E.op x = some (.slice A n m)) : Yld P E ⟨od, .call ⟨.builtin .len, #[x], #[u]⟩, t, pos, aft, g⟩ (.int .i64 n) := y_len (by rw [hk]; rfl) hx
theorem ld_ln {v : Value} {e size : Nat} {xs : List Value} {H' : List Item} (hk : slK P u = some k) (hx : E.op x = some v) (hp : Pick H (.row v e size n xs) H') : Ld P E H S ⟨od, .call ⟨.builtin .len, #[x], #[u]⟩, t, pos, aft, g⟩ (i64 n) := ld_len (by rw [hk]; rfl) hx hp
end
theorem aR {d : Tmp} {g : Option (Nat × Bool)} {t e e' : TypeId} {size bytes : Nat} {x y : Operand} {v : Value} {n m k gb : Nat} {xs news : List Value} {H' H'' : List Item} (hk : apK P t = some (e, size, bytes))
    (h : ∀ v', v'.oneCell' = true → Tr c K ((d, v') :: E) (.row v' e size (n + m) (xs ++ news) :: H') S) (hx : E.op x = some v := by rfl) (hy : E.op y = some (.slice (some ⟨gb, 0, none⟩) m k) := by rfl)
    (hp : Pick H (.row v e size n xs) H' := by repeat (first | exact Pick.hd | apply Pick.tl)) (hq : Pick H' (.row (.slice (some ⟨gb, 0, none⟩) m k) e' size m news) H'' := by repeat (first | exact Pick.hd | apply Pick.tl)) (hl : news.length = m * size := by rfl) (h1 : news.all Value.oneCell' = true := by rfl)
    (h63 : n + m ≤ maxLen := by simp only [maxLen]; omega) (hb : (n + m) * bytes ≤ 140737488355328 := by omega) (hlt : Nat.blt d c.n = true := by rfl) : Tr c (OpW P ⟨some d, .call ⟨.builtin .append, #[x, y], #[t, t]⟩, ty, pos, aft, g⟩ K Q) E H S := t_appR hk hx hy hp hq hl h1 h63 hb hlt h
theorem rn : ResV P E H [] [] := .nil
theorem rt {s : Nat} {v : Value} (h : E.lk s = some v) : ResV P E H [.tmp s] [v] := .tmp h .nil
end
end Go.Proofs.YtkdmbimkanjbhaaGreatDoor.Eng
