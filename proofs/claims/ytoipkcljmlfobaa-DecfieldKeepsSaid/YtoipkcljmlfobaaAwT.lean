/- Facts on the types and functions of this translation, by a program; each closed by the kernel. No condition. -/
import Derived.Test.YtoipkcljmlfobaaProg
import Derived.Test.YtoipkcljmlfobaaAw11
import Derived.KernelRfl
set_option linter.unusedVariables false
set_option maxRecDepth 100000
namespace Go.Proofs.Ytoipkcljmlfobaa
open Go Go.AW
@[simp] theorem tk_0 : tk Try.prog 0 = .other := by kernel_rfl
@[simp] theorem tsz_0 : tsz Try.prog 0 = 1 := by kernel_rfl
@[simp] theorem tby_0 : tby Try.prog 0 = 0 := by kernel_rfl
@[simp] theorem az_0 : azero Try.prog 0 = AV.tup [] := by kernel_rfl
@[simp] theorem tk_1 : tk Try.prog 1 = .fn := by kernel_rfl
@[simp] theorem tsz_1 : tsz Try.prog 1 = 1 := by kernel_rfl
@[simp] theorem tby_1 : tby Try.prog 1 = 8 := by kernel_rfl
@[simp] theorem az_1 : azero Try.prog 1 = AV.c Value.nilFunc := by kernel_rfl
@[simp] theorem tk_2 : tk Try.prog 2 = .int .i64 := by kernel_rfl
@[simp] theorem tsz_2 : tsz Try.prog 2 = 1 := by kernel_rfl
@[simp] theorem tby_2 : tby Try.prog 2 = 8 := by kernel_rfl
@[simp] theorem az_2 : azero Try.prog 2 = AV.c (Value.int .i64 0) := by kernel_rfl
@[simp] theorem tk_3 : tk Try.prog 3 = .int .i64 := by kernel_rfl
@[simp] theorem tsz_3 : tsz Try.prog 3 = 1 := by kernel_rfl
@[simp] theorem tby_3 : tby Try.prog 3 = 8 := by kernel_rfl
@[simp] theorem az_3 : azero Try.prog 3 = AV.c (Value.int .i64 0) := by kernel_rfl
@[simp] theorem tk_4 : tk Try.prog 4 = .bool := by kernel_rfl
@[simp] theorem tsz_4 : tsz Try.prog 4 = 1 := by kernel_rfl
@[simp] theorem tby_4 : tby Try.prog 4 = 1 := by kernel_rfl
@[simp] theorem az_4 : azero Try.prog 4 = AV.c (Value.bool false) := by kernel_rfl
@[simp] theorem tk_5 : tk Try.prog 5 = .int .u8 := by kernel_rfl
@[simp] theorem tsz_5 : tsz Try.prog 5 = 1 := by kernel_rfl
@[simp] theorem tby_5 : tby Try.prog 5 = 1 := by kernel_rfl
@[simp] theorem az_5 : azero Try.prog 5 = AV.c (Value.int .u8 0) := by kernel_rfl
@[simp] theorem tk_6 : tk Try.prog 6 = .int .u8 := by kernel_rfl
@[simp] theorem tsz_6 : tsz Try.prog 6 = 1 := by kernel_rfl
@[simp] theorem tby_6 : tby Try.prog 6 = 1 := by kernel_rfl
@[simp] theorem az_6 : azero Try.prog 6 = AV.c (Value.int .u8 0) := by kernel_rfl
@[simp] theorem tk_7 : tk Try.prog 7 = .strct := by kernel_rfl
@[simp] theorem tsz_7 : tsz Try.prog 7 = 4 := by kernel_rfl
@[simp] theorem tby_7 : tby Try.prog 7 = 24 := by kernel_rfl
@[simp] theorem az_7 : azero Try.prog 7 = AV.agg [AV.c (Value.int .i64 0), AV.c (Value.int .i64 0), AV.c (Value.bool false), AV.c (Value.int .u8 0)] := by kernel_rfl
@[simp] theorem plc_7 : plc Try.prog 7 = some [(0, 1), (1, 1), (2, 1), (3, 1)] := by kernel_rfl
@[simp] theorem tk_8 : tk Try.prog 8 = .strct := by kernel_rfl
@[simp] theorem tsz_8 : tsz Try.prog 8 = 4 := by kernel_rfl
@[simp] theorem tby_8 : tby Try.prog 8 = 24 := by kernel_rfl
@[simp] theorem az_8 : azero Try.prog 8 = AV.agg [AV.c (Value.int .i64 0), AV.c (Value.int .i64 0), AV.c (Value.bool false), AV.c (Value.int .u8 0)] := by kernel_rfl
@[simp] theorem plc_8 : plc Try.prog 8 = some [(0, 1), (1, 1), (2, 1), (3, 1)] := by kernel_rfl
@[simp] theorem tk_9 : tk Try.prog 9 = .str := by kernel_rfl
@[simp] theorem tsz_9 : tsz Try.prog 9 = 1 := by kernel_rfl
@[simp] theorem tby_9 : tby Try.prog 9 = 16 := by kernel_rfl
@[simp] theorem az_9 : azero Try.prog 9 = AV.c (Value.string (⟨#[]⟩ : ByteArray)) := by kernel_rfl
@[simp] theorem tk_10 : tk Try.prog 10 = .str := by kernel_rfl
@[simp] theorem tsz_10 : tsz Try.prog 10 = 1 := by kernel_rfl
@[simp] theorem tby_10 : tby Try.prog 10 = 16 := by kernel_rfl
@[simp] theorem az_10 : azero Try.prog 10 = AV.c (Value.string (⟨#[]⟩ : ByteArray)) := by kernel_rfl
@[simp] theorem tk_11 : tk Try.prog 11 = .str := by kernel_rfl
@[simp] theorem tsz_11 : tsz Try.prog 11 = 1 := by kernel_rfl
@[simp] theorem tby_11 : tby Try.prog 11 = 16 := by kernel_rfl
@[simp] theorem az_11 : azero Try.prog 11 = AV.c (Value.string (⟨#[]⟩ : ByteArray)) := by kernel_rfl
@[simp] theorem tk_12 : tk Try.prog 12 = .int .u64 := by kernel_rfl
@[simp] theorem tsz_12 : tsz Try.prog 12 = 1 := by kernel_rfl
@[simp] theorem tby_12 : tby Try.prog 12 = 8 := by kernel_rfl
@[simp] theorem az_12 : azero Try.prog 12 = AV.c (Value.int .u64 0) := by kernel_rfl
@[simp] theorem tk_13 : tk Try.prog 13 = .strct := by kernel_rfl
@[simp] theorem tsz_13 : tsz Try.prog 13 = 2 := by kernel_rfl
@[simp] theorem tby_13 : tby Try.prog 13 = 24 := by kernel_rfl
@[simp] theorem az_13 : azero Try.prog 13 = AV.agg [AV.c (Value.string (⟨#[]⟩ : ByteArray)), AV.c (Value.int .u64 0)] := by kernel_rfl
@[simp] theorem plc_13 : plc Try.prog 13 = some [(0, 1), (1, 1)] := by kernel_rfl
@[simp] theorem tk_14 : tk Try.prog 14 = .strct := by kernel_rfl
@[simp] theorem tsz_14 : tsz Try.prog 14 = 2 := by kernel_rfl
@[simp] theorem tby_14 : tby Try.prog 14 = 24 := by kernel_rfl
@[simp] theorem az_14 : azero Try.prog 14 = AV.agg [AV.c (Value.string (⟨#[]⟩ : ByteArray)), AV.c (Value.int .u64 0)] := by kernel_rfl
@[simp] theorem plc_14 : plc Try.prog 14 = some [(0, 1), (1, 1)] := by kernel_rfl
@[simp] theorem tk_15 : tk Try.prog 15 = .ptr 46 := by kernel_rfl
@[simp] theorem tsz_15 : tsz Try.prog 15 = 1 := by kernel_rfl
@[simp] theorem tby_15 : tby Try.prog 15 = 8 := by kernel_rfl
@[simp] theorem az_15 : azero Try.prog 15 = AV.c (Value.pointer none) := by kernel_rfl
@[simp] theorem tk_16 : tk Try.prog 16 = .ptr 49 := by kernel_rfl
@[simp] theorem tsz_16 : tsz Try.prog 16 = 1 := by kernel_rfl
@[simp] theorem tby_16 : tby Try.prog 16 = 8 := by kernel_rfl
@[simp] theorem az_16 : azero Try.prog 16 = AV.c (Value.pointer none) := by kernel_rfl
@[simp] theorem tk_17 : tk Try.prog 17 = .ptr 59 := by kernel_rfl
@[simp] theorem tsz_17 : tsz Try.prog 17 = 1 := by kernel_rfl
@[simp] theorem tby_17 : tby Try.prog 17 = 8 := by kernel_rfl
@[simp] theorem az_17 : azero Try.prog 17 = AV.c (Value.pointer none) := by kernel_rfl
@[simp] theorem tk_18 : tk Try.prog 18 = .strct := by kernel_rfl
@[simp] theorem tsz_18 : tsz Try.prog 18 = 1 := by kernel_rfl
@[simp] theorem tby_18 : tby Try.prog 18 = 8 := by kernel_rfl
@[simp] theorem az_18 : azero Try.prog 18 = AV.agg [AV.c (Value.pointer none)] := by kernel_rfl
@[simp] theorem plc_18 : plc Try.prog 18 = some [(0, 1)] := by kernel_rfl
@[simp] theorem tk_19 : tk Try.prog 19 = .strct := by kernel_rfl
@[simp] theorem tsz_19 : tsz Try.prog 19 = 1 := by kernel_rfl
@[simp] theorem tby_19 : tby Try.prog 19 = 8 := by kernel_rfl
@[simp] theorem az_19 : azero Try.prog 19 = AV.agg [AV.c (Value.pointer none)] := by kernel_rfl
@[simp] theorem plc_19 : plc Try.prog 19 = some [(0, 1)] := by kernel_rfl
@[simp] theorem tk_20 : tk Try.prog 20 = .ifc := by kernel_rfl
@[simp] theorem tsz_20 : tsz Try.prog 20 = 1 := by kernel_rfl
@[simp] theorem tby_20 : tby Try.prog 20 = 16 := by kernel_rfl
@[simp] theorem az_20 : azero Try.prog 20 = AV.c Value.nilIface := by kernel_rfl
@[simp] theorem tk_21 : tk Try.prog 21 = .int .i32 := by kernel_rfl
@[simp] theorem tsz_21 : tsz Try.prog 21 = 1 := by kernel_rfl
@[simp] theorem tby_21 : tby Try.prog 21 = 4 := by kernel_rfl
@[simp] theorem az_21 : azero Try.prog 21 = AV.c (Value.int .i32 0) := by kernel_rfl
@[simp] theorem tk_22 : tk Try.prog 22 = .slc 5 := by kernel_rfl
@[simp] theorem tsz_22 : tsz Try.prog 22 = 1 := by kernel_rfl
@[simp] theorem tby_22 : tby Try.prog 22 = 24 := by kernel_rfl
@[simp] theorem az_22 : azero Try.prog 22 = AV.nl := by kernel_rfl
@[simp] theorem tk_23 : tk Try.prog 23 = .fn := by kernel_rfl
@[simp] theorem tsz_23 : tsz Try.prog 23 = 1 := by kernel_rfl
@[simp] theorem tby_23 : tby Try.prog 23 = 8 := by kernel_rfl
@[simp] theorem az_23 : azero Try.prog 23 = AV.c Value.nilFunc := by kernel_rfl
@[simp] theorem tk_24 : tk Try.prog 24 = .int .i64 := by kernel_rfl
@[simp] theorem tsz_24 : tsz Try.prog 24 = 1 := by kernel_rfl
@[simp] theorem tby_24 : tby Try.prog 24 = 8 := by kernel_rfl
@[simp] theorem az_24 : azero Try.prog 24 = AV.c (Value.int .i64 0) := by kernel_rfl
@[simp] theorem tk_25 : tk Try.prog 25 = .other := by kernel_rfl
@[simp] theorem tsz_25 : tsz Try.prog 25 = 1 := by kernel_rfl
@[simp] theorem tby_25 : tby Try.prog 25 = 0 := by kernel_rfl
@[simp] theorem az_25 : azero Try.prog 25 = AV.junk := by kernel_rfl
@[simp] theorem tk_26 : tk Try.prog 26 = .fn := by kernel_rfl
@[simp] theorem tsz_26 : tsz Try.prog 26 = 1 := by kernel_rfl
@[simp] theorem tby_26 : tby Try.prog 26 = 8 := by kernel_rfl
@[simp] theorem az_26 : azero Try.prog 26 = AV.c Value.nilFunc := by kernel_rfl
@[simp] theorem tk_27 : tk Try.prog 27 = .other := by kernel_rfl
@[simp] theorem tsz_27 : tsz Try.prog 27 = 1 := by kernel_rfl
@[simp] theorem tby_27 : tby Try.prog 27 = 0 := by kernel_rfl
@[simp] theorem az_27 : azero Try.prog 27 = AV.junk := by kernel_rfl
@[simp] theorem tk_28 : tk Try.prog 28 = .fn := by kernel_rfl
@[simp] theorem tsz_28 : tsz Try.prog 28 = 1 := by kernel_rfl
@[simp] theorem tby_28 : tby Try.prog 28 = 8 := by kernel_rfl
@[simp] theorem az_28 : azero Try.prog 28 = AV.c Value.nilFunc := by kernel_rfl
@[simp] theorem tk_29 : tk Try.prog 29 = .other := by kernel_rfl
@[simp] theorem tsz_29 : tsz Try.prog 29 = 1 := by kernel_rfl
@[simp] theorem tby_29 : tby Try.prog 29 = 0 := by kernel_rfl
@[simp] theorem az_29 : azero Try.prog 29 = AV.junk := by kernel_rfl
@[simp] theorem tk_30 : tk Try.prog 30 = .fn := by kernel_rfl
@[simp] theorem tsz_30 : tsz Try.prog 30 = 1 := by kernel_rfl
@[simp] theorem tby_30 : tby Try.prog 30 = 8 := by kernel_rfl
@[simp] theorem az_30 : azero Try.prog 30 = AV.c Value.nilFunc := by kernel_rfl
@[simp] theorem tk_31 : tk Try.prog 31 = .other := by kernel_rfl
@[simp] theorem tsz_31 : tsz Try.prog 31 = 1 := by kernel_rfl
@[simp] theorem tby_31 : tby Try.prog 31 = 0 := by kernel_rfl
@[simp] theorem az_31 : azero Try.prog 31 = AV.junk := by kernel_rfl
@[simp] theorem tk_32 : tk Try.prog 32 = .fn := by kernel_rfl
@[simp] theorem tsz_32 : tsz Try.prog 32 = 1 := by kernel_rfl
@[simp] theorem tby_32 : tby Try.prog 32 = 8 := by kernel_rfl
@[simp] theorem az_32 : azero Try.prog 32 = AV.c Value.nilFunc := by kernel_rfl
@[simp] theorem tk_33 : tk Try.prog 33 = .fn := by kernel_rfl
@[simp] theorem tsz_33 : tsz Try.prog 33 = 1 := by kernel_rfl
@[simp] theorem tby_33 : tby Try.prog 33 = 8 := by kernel_rfl
@[simp] theorem az_33 : azero Try.prog 33 = AV.c Value.nilFunc := by kernel_rfl
@[simp] theorem tk_34 : tk Try.prog 34 = .fn := by kernel_rfl
@[simp] theorem tsz_34 : tsz Try.prog 34 = 1 := by kernel_rfl
@[simp] theorem tby_34 : tby Try.prog 34 = 8 := by kernel_rfl
@[simp] theorem az_34 : azero Try.prog 34 = AV.c Value.nilFunc := by kernel_rfl
@[simp] theorem tk_35 : tk Try.prog 35 = .fn := by kernel_rfl
@[simp] theorem tsz_35 : tsz Try.prog 35 = 1 := by kernel_rfl
@[simp] theorem tby_35 : tby Try.prog 35 = 8 := by kernel_rfl
@[simp] theorem az_35 : azero Try.prog 35 = AV.c Value.nilFunc := by kernel_rfl
@[simp] theorem tk_36 : tk Try.prog 36 = .fn := by kernel_rfl
@[simp] theorem tsz_36 : tsz Try.prog 36 = 1 := by kernel_rfl
@[simp] theorem tby_36 : tby Try.prog 36 = 8 := by kernel_rfl
@[simp] theorem az_36 : azero Try.prog 36 = AV.c Value.nilFunc := by kernel_rfl
@[simp] theorem tk_37 : tk Try.prog 37 = .fn := by kernel_rfl
@[simp] theorem tsz_37 : tsz Try.prog 37 = 1 := by kernel_rfl
@[simp] theorem tby_37 : tby Try.prog 37 = 8 := by kernel_rfl
@[simp] theorem az_37 : azero Try.prog 37 = AV.c Value.nilFunc := by kernel_rfl
@[simp] theorem tk_38 : tk Try.prog 38 = .fn := by kernel_rfl
@[simp] theorem tsz_38 : tsz Try.prog 38 = 1 := by kernel_rfl
@[simp] theorem tby_38 : tby Try.prog 38 = 8 := by kernel_rfl
@[simp] theorem az_38 : azero Try.prog 38 = AV.c Value.nilFunc := by kernel_rfl
@[simp] theorem tk_39 : tk Try.prog 39 = .fn := by kernel_rfl
@[simp] theorem tsz_39 : tsz Try.prog 39 = 1 := by kernel_rfl
@[simp] theorem tby_39 : tby Try.prog 39 = 8 := by kernel_rfl
@[simp] theorem az_39 : azero Try.prog 39 = AV.c Value.nilFunc := by kernel_rfl
@[simp] theorem tk_40 : tk Try.prog 40 = .fn := by kernel_rfl
@[simp] theorem tsz_40 : tsz Try.prog 40 = 1 := by kernel_rfl
@[simp] theorem tby_40 : tby Try.prog 40 = 8 := by kernel_rfl
@[simp] theorem az_40 : azero Try.prog 40 = AV.c Value.nilFunc := by kernel_rfl
@[simp] theorem tk_41 : tk Try.prog 41 = .fn := by kernel_rfl
@[simp] theorem tsz_41 : tsz Try.prog 41 = 1 := by kernel_rfl
@[simp] theorem tby_41 : tby Try.prog 41 = 8 := by kernel_rfl
@[simp] theorem az_41 : azero Try.prog 41 = AV.c Value.nilFunc := by kernel_rfl
@[simp] theorem tk_42 : tk Try.prog 42 = .fn := by kernel_rfl
@[simp] theorem tsz_42 : tsz Try.prog 42 = 1 := by kernel_rfl
@[simp] theorem tby_42 : tby Try.prog 42 = 8 := by kernel_rfl
@[simp] theorem az_42 : azero Try.prog 42 = AV.c Value.nilFunc := by kernel_rfl
@[simp] theorem tk_43 : tk Try.prog 43 = .fn := by kernel_rfl
@[simp] theorem tsz_43 : tsz Try.prog 43 = 1 := by kernel_rfl
@[simp] theorem tby_43 : tby Try.prog 43 = 8 := by kernel_rfl
@[simp] theorem az_43 : azero Try.prog 43 = AV.c Value.nilFunc := by kernel_rfl
@[simp] theorem tk_44 : tk Try.prog 44 = .fn := by kernel_rfl
@[simp] theorem tsz_44 : tsz Try.prog 44 = 1 := by kernel_rfl
@[simp] theorem tby_44 : tby Try.prog 44 = 8 := by kernel_rfl
@[simp] theorem az_44 : azero Try.prog 44 = AV.c Value.nilFunc := by kernel_rfl
@[simp] theorem tk_45 : tk Try.prog 45 = .strct := by kernel_rfl
@[simp] theorem tsz_45 : tsz Try.prog 45 = 4 := by kernel_rfl
@[simp] theorem tby_45 : tby Try.prog 45 = 40 := by kernel_rfl
@[simp] theorem az_45 : azero Try.prog 45 = AV.agg [AV.c (Value.pointer none), AV.c (Value.pointer none), AV.c (Value.pointer none), AV.c (Value.string (⟨#[]⟩ : ByteArray))] := by kernel_rfl
@[simp] theorem plc_45 : plc Try.prog 45 = some [(0, 1), (1, 1), (2, 1), (3, 1)] := by kernel_rfl
@[simp] theorem tk_46 : tk Try.prog 46 = .strct := by kernel_rfl
@[simp] theorem tsz_46 : tsz Try.prog 46 = 4 := by kernel_rfl
@[simp] theorem tby_46 : tby Try.prog 46 = 40 := by kernel_rfl
@[simp] theorem az_46 : azero Try.prog 46 = AV.agg [AV.c (Value.pointer none), AV.c (Value.pointer none), AV.c (Value.pointer none), AV.c (Value.string (⟨#[]⟩ : ByteArray))] := by kernel_rfl
@[simp] theorem plc_46 : plc Try.prog 46 = some [(0, 1), (1, 1), (2, 1), (3, 1)] := by kernel_rfl
@[simp] theorem tk_47 : tk Try.prog 47 = .arr 0 16 := by kernel_rfl
@[simp] theorem tsz_47 : tsz Try.prog 47 = 0 := by kernel_rfl
@[simp] theorem tby_47 : tby Try.prog 47 = 0 := by kernel_rfl
@[simp] theorem az_47 : azero Try.prog 47 = AV.agg [] := by kernel_rfl
@[simp] theorem plc_47 : plc Try.prog 47 = some [] := by kernel_rfl
@[simp] theorem tk_48 : tk Try.prog 48 = .strct := by kernel_rfl
@[simp] theorem tsz_48 : tsz Try.prog 48 = 0 := by kernel_rfl
@[simp] theorem tby_48 : tby Try.prog 48 = 0 := by kernel_rfl
@[simp] theorem az_48 : azero Try.prog 48 = AV.agg [] := by kernel_rfl
@[simp] theorem plc_48 : plc Try.prog 48 = some [(0, 0)] := by kernel_rfl
@[simp] theorem tk_49 : tk Try.prog 49 = .strct := by kernel_rfl
@[simp] theorem tsz_49 : tsz Try.prog 49 = 0 := by kernel_rfl
@[simp] theorem tby_49 : tby Try.prog 49 = 0 := by kernel_rfl
@[simp] theorem az_49 : azero Try.prog 49 = AV.agg [] := by kernel_rfl
@[simp] theorem plc_49 : plc Try.prog 49 = some [(0, 0)] := by kernel_rfl
@[simp] theorem tk_50 : tk Try.prog 50 = .fn := by kernel_rfl
@[simp] theorem tsz_50 : tsz Try.prog 50 = 1 := by kernel_rfl
@[simp] theorem tby_50 : tby Try.prog 50 = 8 := by kernel_rfl
@[simp] theorem az_50 : azero Try.prog 50 = AV.c Value.nilFunc := by kernel_rfl
@[simp] theorem tk_51 : tk Try.prog 51 = .int .u32 := by kernel_rfl
@[simp] theorem tsz_51 : tsz Try.prog 51 = 1 := by kernel_rfl
@[simp] theorem tby_51 : tby Try.prog 51 = 4 := by kernel_rfl
@[simp] theorem az_51 : azero Try.prog 51 = AV.c (Value.int .u32 0) := by kernel_rfl
@[simp] theorem tk_52 : tk Try.prog 52 = .int .u8 := by kernel_rfl
@[simp] theorem tsz_52 : tsz Try.prog 52 = 1 := by kernel_rfl
@[simp] theorem tby_52 : tby Try.prog 52 = 1 := by kernel_rfl
@[simp] theorem az_52 : azero Try.prog 52 = AV.c (Value.int .u8 0) := by kernel_rfl
@[simp] theorem tk_53 : tk Try.prog 53 = .int .u8 := by kernel_rfl
@[simp] theorem tsz_53 : tsz Try.prog 53 = 1 := by kernel_rfl
@[simp] theorem tby_53 : tby Try.prog 53 = 1 := by kernel_rfl
@[simp] theorem az_53 : azero Try.prog 53 = AV.c (Value.int .u8 0) := by kernel_rfl
@[simp] theorem tk_54 : tk Try.prog 54 = .fn := by kernel_rfl
@[simp] theorem tsz_54 : tsz Try.prog 54 = 1 := by kernel_rfl
@[simp] theorem tby_54 : tby Try.prog 54 = 8 := by kernel_rfl
@[simp] theorem az_54 : azero Try.prog 54 = AV.c Value.nilFunc := by kernel_rfl
@[simp] theorem tk_55 : tk Try.prog 55 = .ptr 5 := by kernel_rfl
@[simp] theorem tsz_55 : tsz Try.prog 55 = 1 := by kernel_rfl
@[simp] theorem tby_55 : tby Try.prog 55 = 8 := by kernel_rfl
@[simp] theorem az_55 : azero Try.prog 55 = AV.c (Value.pointer none) := by kernel_rfl
@[simp] theorem tk_56 : tk Try.prog 56 = .int .i32 := by kernel_rfl
@[simp] theorem tsz_56 : tsz Try.prog 56 = 1 := by kernel_rfl
@[simp] theorem tby_56 : tby Try.prog 56 = 4 := by kernel_rfl
@[simp] theorem az_56 : azero Try.prog 56 = AV.c (Value.int .i32 0) := by kernel_rfl
@[simp] theorem tk_57 : tk Try.prog 57 = .int .i32 := by kernel_rfl
@[simp] theorem tsz_57 : tsz Try.prog 57 = 1 := by kernel_rfl
@[simp] theorem tby_57 : tby Try.prog 57 = 4 := by kernel_rfl
@[simp] theorem az_57 : azero Try.prog 57 = AV.c (Value.int .i32 0) := by kernel_rfl
@[simp] theorem tk_58 : tk Try.prog 58 = .strct := by kernel_rfl
@[simp] theorem tsz_58 : tsz Try.prog 58 = 11 := by kernel_rfl
@[simp] theorem tby_58 : tby Try.prog 58 = 48 := by kernel_rfl
@[simp] theorem az_58 : azero Try.prog 58 = AV.agg [AV.c (Value.int .u64 0), AV.c (Value.int .u64 0), AV.c (Value.int .u32 0), AV.c (Value.int .u8 0), AV.c (Value.int .u8 0), AV.c (Value.int .u8 0), AV.c (Value.int .u8 0), AV.c Value.nilFunc, AV.c (Value.pointer none), AV.c (Value.int .i32 0), AV.c (Value.int .i32 0)] := by kernel_rfl
@[simp] theorem plc_58 : plc Try.prog 58 = some [(0, 1), (1, 1), (2, 1), (3, 1), (4, 1), (5, 1), (6, 1), (7, 1), (8, 1), (9, 1), (10, 1)] := by kernel_rfl
@[simp] theorem tk_59 : tk Try.prog 59 = .strct := by kernel_rfl
@[simp] theorem tsz_59 : tsz Try.prog 59 = 11 := by kernel_rfl
@[simp] theorem tby_59 : tby Try.prog 59 = 48 := by kernel_rfl
@[simp] theorem az_59 : azero Try.prog 59 = AV.agg [AV.c (Value.int .u64 0), AV.c (Value.int .u64 0), AV.c (Value.int .u32 0), AV.c (Value.int .u8 0), AV.c (Value.int .u8 0), AV.c (Value.int .u8 0), AV.c (Value.int .u8 0), AV.c Value.nilFunc, AV.c (Value.pointer none), AV.c (Value.int .i32 0), AV.c (Value.int .i32 0)] := by kernel_rfl
@[simp] theorem plc_59 : plc Try.prog 59 = some [(0, 1), (1, 1), (2, 1), (3, 1), (4, 1), (5, 1), (6, 1), (7, 1), (8, 1), (9, 1), (10, 1)] := by kernel_rfl
@[simp] theorem tk_60 : tk Try.prog 60 = .other := by kernel_rfl
@[simp] theorem tsz_60 : tsz Try.prog 60 = 1 := by kernel_rfl
@[simp] theorem tby_60 : tby Try.prog 60 = 8 := by kernel_rfl
@[simp] theorem az_60 : azero Try.prog 60 = AV.c (Value.pointer none) := by kernel_rfl
@[simp] theorem fld_7_0 : fld Try.prog 7 0 = some (0, 2) := by kernel_rfl
@[simp] theorem fld_7_1 : fld Try.prog 7 1 = some (1, 3) := by kernel_rfl
@[simp] theorem fld_7_2 : fld Try.prog 7 2 = some (2, 4) := by kernel_rfl
@[simp] theorem fld_7_3 : fld Try.prog 7 3 = some (3, 6) := by kernel_rfl
@[simp] theorem fld_8_0 : fld Try.prog 8 0 = some (0, 2) := by kernel_rfl
@[simp] theorem fld_8_1 : fld Try.prog 8 1 = some (1, 3) := by kernel_rfl
@[simp] theorem fld_8_2 : fld Try.prog 8 2 = some (2, 4) := by kernel_rfl
@[simp] theorem fld_8_3 : fld Try.prog 8 3 = some (3, 6) := by kernel_rfl
@[simp] theorem fld_13_0 : fld Try.prog 13 0 = some (0, 9) := by kernel_rfl
@[simp] theorem fld_13_1 : fld Try.prog 13 1 = some (1, 12) := by kernel_rfl
@[simp] theorem fld_14_0 : fld Try.prog 14 0 = some (0, 9) := by kernel_rfl
@[simp] theorem fld_14_1 : fld Try.prog 14 1 = some (1, 12) := by kernel_rfl
@[simp] theorem fld_18_0 : fld Try.prog 18 0 = some (0, 17) := by kernel_rfl
@[simp] theorem fld_19_0 : fld Try.prog 19 0 = some (0, 17) := by kernel_rfl
@[simp] theorem fld_45_0 : fld Try.prog 45 0 = some (0, 17) := by kernel_rfl
@[simp] theorem fld_45_1 : fld Try.prog 45 1 = some (1, 17) := by kernel_rfl
@[simp] theorem fld_45_2 : fld Try.prog 45 2 = some (2, 17) := by kernel_rfl
@[simp] theorem fld_45_3 : fld Try.prog 45 3 = some (3, 9) := by kernel_rfl
@[simp] theorem fld_46_0 : fld Try.prog 46 0 = some (0, 17) := by kernel_rfl
@[simp] theorem fld_46_1 : fld Try.prog 46 1 = some (1, 17) := by kernel_rfl
@[simp] theorem fld_46_2 : fld Try.prog 46 2 = some (2, 17) := by kernel_rfl
@[simp] theorem fld_46_3 : fld Try.prog 46 3 = some (3, 9) := by kernel_rfl
@[simp] theorem fld_48_0 : fld Try.prog 48 0 = none := by kernel_rfl
@[simp] theorem fld_49_0 : fld Try.prog 49 0 = none := by kernel_rfl
@[simp] theorem fld_58_0 : fld Try.prog 58 0 = some (0, 12) := by kernel_rfl
@[simp] theorem fld_58_1 : fld Try.prog 58 1 = some (1, 12) := by kernel_rfl
@[simp] theorem fld_58_2 : fld Try.prog 58 2 = some (2, 51) := by kernel_rfl
@[simp] theorem fld_58_3 : fld Try.prog 58 3 = some (3, 52) := by kernel_rfl
@[simp] theorem fld_58_4 : fld Try.prog 58 4 = some (4, 5) := by kernel_rfl
@[simp] theorem fld_58_5 : fld Try.prog 58 5 = some (5, 5) := by kernel_rfl
@[simp] theorem fld_58_6 : fld Try.prog 58 6 = some (6, 53) := by kernel_rfl
@[simp] theorem fld_58_7 : fld Try.prog 58 7 = some (7, 54) := by kernel_rfl
@[simp] theorem fld_58_8 : fld Try.prog 58 8 = some (8, 55) := by kernel_rfl
@[simp] theorem fld_58_9 : fld Try.prog 58 9 = some (9, 56) := by kernel_rfl
@[simp] theorem fld_58_10 : fld Try.prog 58 10 = some (10, 57) := by kernel_rfl
@[simp] theorem fld_59_0 : fld Try.prog 59 0 = some (0, 12) := by kernel_rfl
@[simp] theorem fld_59_1 : fld Try.prog 59 1 = some (1, 12) := by kernel_rfl
@[simp] theorem fld_59_2 : fld Try.prog 59 2 = some (2, 51) := by kernel_rfl
@[simp] theorem fld_59_3 : fld Try.prog 59 3 = some (3, 52) := by kernel_rfl
@[simp] theorem fld_59_4 : fld Try.prog 59 4 = some (4, 5) := by kernel_rfl
@[simp] theorem fld_59_5 : fld Try.prog 59 5 = some (5, 5) := by kernel_rfl
@[simp] theorem fld_59_6 : fld Try.prog 59 6 = some (6, 53) := by kernel_rfl
@[simp] theorem fld_59_7 : fld Try.prog 59 7 = some (7, 54) := by kernel_rfl
@[simp] theorem fld_59_8 : fld Try.prog 59 8 = some (8, 55) := by kernel_rfl
@[simp] theorem fld_59_9 : fld Try.prog 59 9 = some (9, 56) := by kernel_rfl
@[simp] theorem fld_59_10 : fld Try.prog 59 10 = some (10, 57) := by kernel_rfl
@[simp] theorem callable_3 : callable Try.prog 3 = true := by kernel_rfl
@[simp] theorem callable_4 : callable Try.prog 4 = true := by kernel_rfl
@[simp] theorem callable_5 : callable Try.prog 5 = true := by kernel_rfl
@[simp] theorem callable_6 : callable Try.prog 6 = true := by kernel_rfl
@[simp] theorem callable_7 : callable Try.prog 7 = true := by kernel_rfl
@[simp] theorem callable_8 : callable Try.prog 8 = true := by kernel_rfl
@[simp] theorem callable_9 : callable Try.prog 9 = true := by kernel_rfl
@[simp] theorem callable_10 : callable Try.prog 10 = true := by kernel_rfl
@[simp] theorem callable_11 : callable Try.prog 11 = true := by kernel_rfl
@[simp] theorem callable_12 : callable Try.prog 12 = true := by kernel_rfl
@[simp] theorem callable_13 : callable Try.prog 13 = true := by kernel_rfl
@[simp] theorem callable_14 : callable Try.prog 14 = true := by kernel_rfl
@[simp] theorem callable_15 : callable Try.prog 15 = true := by kernel_rfl
@[simp] theorem callable_16 : callable Try.prog 16 = true := by kernel_rfl
@[simp] theorem callable_17 : callable Try.prog 17 = true := by kernel_rfl
@[simp] theorem callable_18 : callable Try.prog 18 = true := by kernel_rfl
@[simp] theorem callable_19 : callable Try.prog 19 = true := by kernel_rfl
end Go.Proofs.Ytoipkcljmlfobaa
