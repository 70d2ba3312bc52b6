/- Each type of the program, as the walks look at it: written by gen_ti.py. -/
import Derived.Test.YthgppaccdlcaiaaXm
import Derived.Test.YthgppaccdlcaiaaProg
import Derived.KernelRfl
set_option maxRecDepth 4000
namespace Go.X

theorem ti_1 : tiOf Go.Proofs.Try.prog 1 = some ⟨1, false, 8, .l (.nilf), .func⟩ := by kernel_rfl
theorem ti_2 : tiOf Go.Proofs.Try.prog 2 = some ⟨1, false, 8, .l (.int .i64 0), .int .i64⟩ := by kernel_rfl
theorem ti_3 : tiOf Go.Proofs.Try.prog 3 = some ⟨1, false, 8, .l (.int .i64 0), .int .i64⟩ := by kernel_rfl
theorem ti_4 : tiOf Go.Proofs.Try.prog 4 = some ⟨1, false, 1, .l (.bool false), .bool⟩ := by kernel_rfl
theorem ti_5 : tiOf Go.Proofs.Try.prog 5 = some ⟨1, false, 1, .l (.int .u8 0), .int .u8⟩ := by kernel_rfl
theorem ti_6 : tiOf Go.Proofs.Try.prog 6 = some ⟨1, false, 1, .l (.int .u8 0), .int .u8⟩ := by kernel_rfl
theorem ti_7 : tiOf Go.Proofs.Try.prog 7 = some ⟨4, true, 24, .agg [.int .i64 0, .int .i64 0, .bool false, .int .u8 0], .struct [(0, 2), (1, 3), (2, 4), (3, 6)]⟩ := by kernel_rfl
theorem ti_8 : tiOf Go.Proofs.Try.prog 8 = some ⟨4, true, 24, .agg [.int .i64 0, .int .i64 0, .bool false, .int .u8 0], .struct [(0, 2), (1, 3), (2, 4), (3, 6)]⟩ := by kernel_rfl
theorem ti_9 : tiOf Go.Proofs.Try.prog 9 = some ⟨1, false, 16, .l (.str ⟨#[]⟩), .string⟩ := by kernel_rfl
theorem ti_10 : tiOf Go.Proofs.Try.prog 10 = some ⟨1, false, 16, .l (.str ⟨#[]⟩), .string⟩ := by kernel_rfl
theorem ti_11 : tiOf Go.Proofs.Try.prog 11 = some ⟨1, false, 16, .l (.str ⟨#[]⟩), .string⟩ := by kernel_rfl
theorem ti_12 : tiOf Go.Proofs.Try.prog 12 = some ⟨1, false, 8, .l (.int .u64 0), .int .u64⟩ := by kernel_rfl
theorem ti_13 : tiOf Go.Proofs.Try.prog 13 = some ⟨2, true, 24, .agg [.str ⟨#[]⟩, .int .u64 0], .struct [(0, 9), (1, 12)]⟩ := by kernel_rfl
theorem ti_14 : tiOf Go.Proofs.Try.prog 14 = some ⟨2, true, 24, .agg [.str ⟨#[]⟩, .int .u64 0], .struct [(0, 9), (1, 12)]⟩ := by kernel_rfl
theorem ti_15 : tiOf Go.Proofs.Try.prog 15 = some ⟨1, false, 8, .l (.nilp), .pointer 88⟩ := by kernel_rfl
theorem ti_16 : tiOf Go.Proofs.Try.prog 16 = some ⟨1, false, 8, .l (.nilp), .pointer 91⟩ := by kernel_rfl
theorem ti_17 : tiOf Go.Proofs.Try.prog 17 = some ⟨1, false, 8, .l (.nilp), .pointer 100⟩ := by kernel_rfl
theorem ti_18 : tiOf Go.Proofs.Try.prog 18 = some ⟨1, true, 8, .agg [.nilp], .struct [(0, 17)]⟩ := by kernel_rfl
theorem ti_19 : tiOf Go.Proofs.Try.prog 19 = some ⟨1, true, 8, .agg [.nilp], .struct [(0, 17)]⟩ := by kernel_rfl
theorem ti_20 : tiOf Go.Proofs.Try.prog 20 = some ⟨1, false, 16, .l (.nili), .iface⟩ := by kernel_rfl
theorem ti_21 : tiOf Go.Proofs.Try.prog 21 = some ⟨1, false, 4, .l (.int .i32 0), .int .i32⟩ := by kernel_rfl
theorem ti_22 : tiOf Go.Proofs.Try.prog 22 = some ⟨1, false, 24, .l (.nils), .slice 41⟩ := by kernel_rfl
theorem ti_23 : tiOf Go.Proofs.Try.prog 23 = some ⟨1, false, 8, .l (.nilf), .func⟩ := by kernel_rfl
theorem ti_24 : tiOf Go.Proofs.Try.prog 24 = some ⟨1, false, 8, .l (.nilf), .func⟩ := by kernel_rfl
theorem ti_25 : tiOf Go.Proofs.Try.prog 25 = some ⟨1, false, 8, .l (.nilf), .func⟩ := by kernel_rfl
theorem ti_26 : tiOf Go.Proofs.Try.prog 26 = some ⟨1, false, 24, .l (.nils), .slice 38⟩ := by kernel_rfl
theorem ti_27 : tiOf Go.Proofs.Try.prog 27 = some ⟨1, false, 8, .l (.nilf), .func⟩ := by kernel_rfl
theorem ti_28 : tiOf Go.Proofs.Try.prog 28 = some ⟨1, false, 8, .l (.int .u64 0), .int .u64⟩ := by kernel_rfl
theorem ti_29 : tiOf Go.Proofs.Try.prog 29 = some ⟨4, true, 32, .agg [.int .i64 0, .int .i64 0, .int .i64 0, .int .i64 0], .struct [(0, 3), (1, 3), (2, 3), (3, 3)]⟩ := by kernel_rfl
theorem ti_30 : tiOf Go.Proofs.Try.prog 30 = some ⟨4, true, 32, .agg [.int .i64 0, .int .i64 0, .int .i64 0, .int .i64 0], .struct [(0, 3), (1, 3), (2, 3), (3, 3)]⟩ := by kernel_rfl
theorem ti_31 : tiOf Go.Proofs.Try.prog 31 = some ⟨1, false, 8, .l (.int .i64 0), .int .i64⟩ := by kernel_rfl
theorem ti_32 : tiOf Go.Proofs.Try.prog 32 = some ⟨2, true, 16, .agg [.int .i64 0, .int .i64 0], .struct [(0, 3), (1, 3)]⟩ := by kernel_rfl
theorem ti_33 : tiOf Go.Proofs.Try.prog 33 = some ⟨2, true, 16, .agg [.int .i64 0, .int .i64 0], .struct [(0, 3), (1, 3)]⟩ := by kernel_rfl
theorem ti_34 : tiOf Go.Proofs.Try.prog 34 = some ⟨1, false, 24, .l (.nils), .slice 33⟩ := by kernel_rfl
theorem ti_35 : tiOf Go.Proofs.Try.prog 35 = some ⟨6, true, 64, .agg [.int .i64 0, .bool false, .int .i64 0, .int .i64 0, .int .i64 0, .nils], .struct [(0, 31), (1, 4), (2, 33), (4, 3), (5, 34)]⟩ := by kernel_rfl
theorem ti_36 : tiOf Go.Proofs.Try.prog 36 = some ⟨6, true, 64, .agg [.int .i64 0, .bool false, .int .i64 0, .int .i64 0, .int .i64 0, .nils], .struct [(0, 31), (1, 4), (2, 33), (4, 3), (5, 34)]⟩ := by kernel_rfl
theorem ti_37 : tiOf Go.Proofs.Try.prog 37 = some ⟨13, true, 120, .agg [.int .i64 0, .int .i64 0, .int .i64 0, .int .i64 0, .int .i64 0, .int .i64 0, .int .i64 0, .int .i64 0, .bool false, .int .i64 0, .int .i64 0, .int .i64 0, .nils], .struct [(0, 3), (1, 3), (2, 3), (3, 30), (7, 36)]⟩ := by kernel_rfl
theorem ti_38 : tiOf Go.Proofs.Try.prog 38 = some ⟨13, true, 120, .agg [.int .i64 0, .int .i64 0, .int .i64 0, .int .i64 0, .int .i64 0, .int .i64 0, .int .i64 0, .int .i64 0, .bool false, .int .i64 0, .int .i64 0, .int .i64 0, .nils], .struct [(0, 3), (1, 3), (2, 3), (3, 30), (7, 36)]⟩ := by kernel_rfl
theorem ti_39 : tiOf Go.Proofs.Try.prog 39 = some ⟨1, false, 8, .l (.nilf), .func⟩ := by kernel_rfl
theorem ti_40 : tiOf Go.Proofs.Try.prog 40 = some ⟨12, true, 112, .agg [.int .i64 0, .bool false, .int .i64 0, .int .i64 0, .int .i64 0, .int .i64 0, .int .i64 0, .bool false, .int .i64 0, .int .i64 0, .int .i64 0, .nils], .struct [(0, 3), (1, 4), (2, 30), (6, 36)]⟩ := by kernel_rfl
theorem ti_41 : tiOf Go.Proofs.Try.prog 41 = some ⟨12, true, 112, .agg [.int .i64 0, .bool false, .int .i64 0, .int .i64 0, .int .i64 0, .int .i64 0, .int .i64 0, .bool false, .int .i64 0, .int .i64 0, .int .i64 0, .nils], .struct [(0, 3), (1, 4), (2, 30), (6, 36)]⟩ := by kernel_rfl
theorem ti_42 : tiOf Go.Proofs.Try.prog 42 = some ⟨1, false, 8, .l (.nilf), .func⟩ := by kernel_rfl
theorem ti_43 : tiOf Go.Proofs.Try.prog 43 = some ⟨1, false, 8, .l (.nilf), .func⟩ := by kernel_rfl
theorem ti_44 : tiOf Go.Proofs.Try.prog 44 = some ⟨1, false, 8, .l (.nilf), .func⟩ := by kernel_rfl
theorem ti_45 : tiOf Go.Proofs.Try.prog 45 = some ⟨1, false, 8, .l (.nilf), .func⟩ := by kernel_rfl
theorem ti_46 : tiOf Go.Proofs.Try.prog 46 = some ⟨1, false, 24, .l (.nils), .slice 30⟩ := by kernel_rfl
theorem ti_47 : tiOf Go.Proofs.Try.prog 47 = some ⟨1, false, 8, .l (.nilf), .func⟩ := by kernel_rfl
theorem ti_48 : tiOf Go.Proofs.Try.prog 48 = some ⟨1, false, 8, .l (.nilm), .map 3 3⟩ := by kernel_rfl
theorem ti_50 : tiOf Go.Proofs.Try.prog 50 = some ⟨1, false, 8, .l (.nilf), .func⟩ := by kernel_rfl
theorem ti_51 : tiOf Go.Proofs.Try.prog 51 = some ⟨1, false, 8, .l (.nilf), .func⟩ := by kernel_rfl
theorem ti_53 : tiOf Go.Proofs.Try.prog 53 = some ⟨1, false, 8, .l (.nilf), .func⟩ := by kernel_rfl
theorem ti_54 : tiOf Go.Proofs.Try.prog 54 = some ⟨1, false, 8, .l (.nilf), .func⟩ := by kernel_rfl
theorem ti_55 : tiOf Go.Proofs.Try.prog 55 = some ⟨1, false, 8, .l (.nilf), .func⟩ := by kernel_rfl
theorem ti_56 : tiOf Go.Proofs.Try.prog 56 = some ⟨1, false, 8, .l (.nilf), .func⟩ := by kernel_rfl
theorem ti_57 : tiOf Go.Proofs.Try.prog 57 = some ⟨1, false, 8, .l (.nilf), .func⟩ := by kernel_rfl
theorem ti_58 : tiOf Go.Proofs.Try.prog 58 = some ⟨1, false, 8, .l (.nilf), .func⟩ := by kernel_rfl
theorem ti_59 : tiOf Go.Proofs.Try.prog 59 = some ⟨1, false, 8, .l (.nilp), .pointer 82⟩ := by kernel_rfl
theorem ti_60 : tiOf Go.Proofs.Try.prog 60 = some ⟨1, false, 8, .l (.nilf), .func⟩ := by kernel_rfl
theorem ti_61 : tiOf Go.Proofs.Try.prog 61 = some ⟨1, false, 24, .l (.nils), .slice 36⟩ := by kernel_rfl
theorem ti_62 : tiOf Go.Proofs.Try.prog 62 = some ⟨1, false, 8, .l (.nilf), .func⟩ := by kernel_rfl
theorem ti_63 : tiOf Go.Proofs.Try.prog 63 = some ⟨1, false, 8, .l (.nilf), .func⟩ := by kernel_rfl
theorem ti_64 : tiOf Go.Proofs.Try.prog 64 = some ⟨1, false, 8, .l (.nilf), .func⟩ := by kernel_rfl
theorem ti_65 : tiOf Go.Proofs.Try.prog 65 = some ⟨1, false, 8, .l (.nilf), .func⟩ := by kernel_rfl
theorem ti_66 : tiOf Go.Proofs.Try.prog 66 = some ⟨1, false, 8, .l (.nilf), .func⟩ := by kernel_rfl
theorem ti_67 : tiOf Go.Proofs.Try.prog 67 = some ⟨1, false, 8, .l (.nilf), .func⟩ := by kernel_rfl
theorem ti_68 : tiOf Go.Proofs.Try.prog 68 = some ⟨1, false, 8, .l (.nilf), .func⟩ := by kernel_rfl
theorem ti_69 : tiOf Go.Proofs.Try.prog 69 = some ⟨1, false, 8, .l (.nilf), .func⟩ := by kernel_rfl
theorem ti_70 : tiOf Go.Proofs.Try.prog 70 = some ⟨1, false, 8, .l (.nilf), .func⟩ := by kernel_rfl
theorem ti_71 : tiOf Go.Proofs.Try.prog 71 = some ⟨1, false, 8, .l (.nilf), .func⟩ := by kernel_rfl
theorem ti_73 : tiOf Go.Proofs.Try.prog 73 = some ⟨1, false, 8, .l (.nilf), .func⟩ := by kernel_rfl
theorem ti_74 : tiOf Go.Proofs.Try.prog 74 = some ⟨6, true, 6, .agg [.bool false, .bool false, .bool false, .bool false, .bool false, .bool false], .array 6 4⟩ := by kernel_rfl
theorem ti_75 : tiOf Go.Proofs.Try.prog 75 = some ⟨24, true, 192, .agg [.int .i64 0, .int .i64 0, .int .i64 0, .int .i64 0, .int .i64 0, .int .i64 0, .int .i64 0, .int .i64 0, .int .i64 0, .int .i64 0, .int .i64 0, .int .i64 0, .int .i64 0, .int .i64 0, .int .i64 0, .int .i64 0, .int .i64 0, .int .i64 0, .int .i64 0, .int .i64 0, .int .i64 0, .int .i64 0, .int .i64 0, .int .i64 0], .array 6 30⟩ := by kernel_rfl
theorem ti_76 : tiOf Go.Proofs.Try.prog 76 = some ⟨1, false, 8, .l (.nilf), .func⟩ := by kernel_rfl
theorem ti_77 : tiOf Go.Proofs.Try.prog 77 = some ⟨1, false, 8, .l (.nilf), .func⟩ := by kernel_rfl
theorem ti_78 : tiOf Go.Proofs.Try.prog 78 = some ⟨1, false, 8, .l (.nilf), .func⟩ := by kernel_rfl
theorem ti_79 : tiOf Go.Proofs.Try.prog 79 = some ⟨1, false, 8, .l (.nilf), .func⟩ := by kernel_rfl
theorem ti_80 : tiOf Go.Proofs.Try.prog 80 = some ⟨1, false, 8, .l (.nilf), .func⟩ := by kernel_rfl
theorem ti_81 : tiOf Go.Proofs.Try.prog 81 = some ⟨1, true, 24, .agg [.nils], .struct [(0, 34)]⟩ := by kernel_rfl
theorem ti_82 : tiOf Go.Proofs.Try.prog 82 = some ⟨1, true, 24, .agg [.nils], .struct [(0, 34)]⟩ := by kernel_rfl
theorem ti_83 : tiOf Go.Proofs.Try.prog 83 = some ⟨1, false, 8, .l (.nilf), .func⟩ := by kernel_rfl
theorem ti_84 : tiOf Go.Proofs.Try.prog 84 = some ⟨1, false, 8, .l (.nilf), .func⟩ := by kernel_rfl
theorem ti_85 : tiOf Go.Proofs.Try.prog 85 = some ⟨1, false, 24, .l (.nils), .slice 34⟩ := by kernel_rfl
theorem ti_86 : tiOf Go.Proofs.Try.prog 86 = some ⟨1, false, 8, .l (.nilf), .func⟩ := by kernel_rfl
theorem ti_87 : tiOf Go.Proofs.Try.prog 87 = some ⟨4, true, 40, .agg [.nilp, .nilp, .nilp, .str ⟨#[]⟩], .struct [(0, 17), (1, 17), (2, 17), (3, 9)]⟩ := by kernel_rfl
theorem ti_88 : tiOf Go.Proofs.Try.prog 88 = some ⟨4, true, 40, .agg [.nilp, .nilp, .nilp, .str ⟨#[]⟩], .struct [(0, 17), (1, 17), (2, 17), (3, 9)]⟩ := by kernel_rfl
theorem ti_89 : tiOf Go.Proofs.Try.prog 89 = some ⟨0, true, 0, .agg [], .array 0 16⟩ := by kernel_rfl
theorem ti_90 : tiOf Go.Proofs.Try.prog 90 = some ⟨0, true, 0, .agg [], .struct [(0, 89)]⟩ := by kernel_rfl
theorem ti_91 : tiOf Go.Proofs.Try.prog 91 = some ⟨0, true, 0, .agg [], .struct [(0, 89)]⟩ := by kernel_rfl
theorem ti_92 : tiOf Go.Proofs.Try.prog 92 = some ⟨1, false, 4, .l (.int .u32 0), .int .u32⟩ := by kernel_rfl
theorem ti_93 : tiOf Go.Proofs.Try.prog 93 = some ⟨1, false, 1, .l (.int .u8 0), .int .u8⟩ := by kernel_rfl
theorem ti_94 : tiOf Go.Proofs.Try.prog 94 = some ⟨1, false, 1, .l (.int .u8 0), .int .u8⟩ := by kernel_rfl
theorem ti_95 : tiOf Go.Proofs.Try.prog 95 = some ⟨1, false, 8, .l (.nilf), .func⟩ := by kernel_rfl
theorem ti_96 : tiOf Go.Proofs.Try.prog 96 = some ⟨1, false, 8, .l (.nilp), .pointer 5⟩ := by kernel_rfl
theorem ti_97 : tiOf Go.Proofs.Try.prog 97 = some ⟨1, false, 4, .l (.int .i32 0), .int .i32⟩ := by kernel_rfl
theorem ti_98 : tiOf Go.Proofs.Try.prog 98 = some ⟨1, false, 4, .l (.int .i32 0), .int .i32⟩ := by kernel_rfl
theorem ti_99 : tiOf Go.Proofs.Try.prog 99 = some ⟨11, true, 48, .agg [.int .u64 0, .int .u64 0, .int .u32 0, .int .u8 0, .int .u8 0, .int .u8 0, .int .u8 0, .nilf, .nilp, .int .i32 0, .int .i32 0], .struct [(0, 12), (1, 12), (2, 92), (3, 93), (4, 5), (5, 5), (6, 94), (7, 95), (8, 96), (9, 97), (10, 98)]⟩ := by kernel_rfl
theorem ti_100 : tiOf Go.Proofs.Try.prog 100 = some ⟨11, true, 48, .agg [.int .u64 0, .int .u64 0, .int .u32 0, .int .u8 0, .int .u8 0, .int .u8 0, .int .u8 0, .nilf, .nilp, .int .i32 0, .int .i32 0], .struct [(0, 12), (1, 12), (2, 92), (3, 93), (4, 5), (5, 5), (6, 94), (7, 95), (8, 96), (9, 97), (10, 98)]⟩ := by kernel_rfl
theorem zf_41 : zeroFits Go.Proofs.Try.prog 41 = true := by kernel_rfl
theorem zf_38 : zeroFits Go.Proofs.Try.prog 38 = true := by kernel_rfl
theorem zf_33 : zeroFits Go.Proofs.Try.prog 33 = true := by kernel_rfl
theorem zf_30 : zeroFits Go.Proofs.Try.prog 30 = true := by kernel_rfl
theorem zf_36 : zeroFits Go.Proofs.Try.prog 36 = true := by kernel_rfl
theorem zf_34 : zeroFits Go.Proofs.Try.prog 34 = true := by kernel_rfl
theorem fe_30 : flatEq Go.Proofs.Try.prog 30 4 = true := by kernel_rfl
theorem fe_33 : flatEq Go.Proofs.Try.prog 33 2 = true := by kernel_rfl
attribute [go_sem] ti_1 ti_2 ti_3 ti_4 ti_5 ti_6 ti_7 ti_8 ti_9 ti_10 ti_11 ti_12 ti_13 ti_14 ti_15 ti_16 ti_17 ti_18 ti_19 ti_20 ti_21 ti_22 ti_23 ti_24 ti_25 ti_26 ti_27 ti_28 ti_29 ti_30 ti_31 ti_32 ti_33 ti_34 ti_35 ti_36 ti_37 ti_38 ti_39 ti_40 ti_41 ti_42 ti_43 ti_44 ti_45 ti_46 ti_47 ti_48 ti_50 ti_51 ti_53 ti_54 ti_55 ti_56 ti_57 ti_58 ti_59 ti_60 ti_61 ti_62 ti_63 ti_64 ti_65 ti_66 ti_67 ti_68 ti_69 ti_70 ti_71 ti_73 ti_74 ti_75 ti_76 ti_77 ti_78 ti_79 ti_80 ti_81 ti_82 ti_83 ti_84 ti_85 ti_86 ti_87 ti_88 ti_89 ti_90 ti_91 ti_92 ti_93 ti_94 ti_95 ti_96 ti_97 ti_98 ti_99 ti_100 zf_41 zf_38 zf_33 zf_30 zf_36 zf_34 fe_30 fe_33
end Go.X
