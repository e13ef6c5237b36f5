/- Facts on the types and functions of this translation, by a program; each closed by the kernel. No condition. -/
import Derived.Test.YtnnhjaihjfdhbaaDoorProg
import Derived.Test.YtnnhjaihjfdhbaaDoorAw11
import Derived.KernelRfl
set_option linter.unusedVariables false
set_option maxRecDepth 100000
namespace Go.Proofs.YtnnhjaihjfdhbaaDoor
open Go Go.AW
@[simp] theorem tk_0 : tk Tryd.prog 0 = .other := by kernel_rfl
@[simp] theorem tsz_0 : tsz Tryd.prog 0 = 1 := by kernel_rfl
@[simp] theorem tby_0 : tby Tryd.prog 0 = 0 := by kernel_rfl
@[simp] theorem az_0 : azero Tryd.prog 0 = AV.tup [] := by kernel_rfl
@[simp] theorem tk_1 : tk Tryd.prog 1 = .fn := by kernel_rfl
@[simp] theorem tsz_1 : tsz Tryd.prog 1 = 1 := by kernel_rfl
@[simp] theorem tby_1 : tby Tryd.prog 1 = 8 := by kernel_rfl
@[simp] theorem az_1 : azero Tryd.prog 1 = AV.c Value.nilFunc := by kernel_rfl
@[simp] theorem tk_2 : tk Tryd.prog 2 = .int .i64 := by kernel_rfl
@[simp] theorem tsz_2 : tsz Tryd.prog 2 = 1 := by kernel_rfl
@[simp] theorem tby_2 : tby Tryd.prog 2 = 8 := by kernel_rfl
@[simp] theorem az_2 : azero Tryd.prog 2 = AV.c (Value.int .i64 0) := by kernel_rfl
@[simp] theorem tk_3 : tk Tryd.prog 3 = .int .i64 := by kernel_rfl
@[simp] theorem tsz_3 : tsz Tryd.prog 3 = 1 := by kernel_rfl
@[simp] theorem tby_3 : tby Tryd.prog 3 = 8 := by kernel_rfl
@[simp] theorem az_3 : azero Tryd.prog 3 = AV.c (Value.int .i64 0) := by kernel_rfl
@[simp] theorem tk_4 : tk Tryd.prog 4 = .bool := by kernel_rfl
@[simp] theorem tsz_4 : tsz Tryd.prog 4 = 1 := by kernel_rfl
@[simp] theorem tby_4 : tby Tryd.prog 4 = 1 := by kernel_rfl
@[simp] theorem az_4 : azero Tryd.prog 4 = AV.c (Value.bool false) := by kernel_rfl
@[simp] theorem tk_5 : tk Tryd.prog 5 = .int .u8 := by kernel_rfl
@[simp] theorem tsz_5 : tsz Tryd.prog 5 = 1 := by kernel_rfl
@[simp] theorem tby_5 : tby Tryd.prog 5 = 1 := by kernel_rfl
@[simp] theorem az_5 : azero Tryd.prog 5 = AV.c (Value.int .u8 0) := by kernel_rfl
@[simp] theorem tk_6 : tk Tryd.prog 6 = .int .u8 := by kernel_rfl
@[simp] theorem tsz_6 : tsz Tryd.prog 6 = 1 := by kernel_rfl
@[simp] theorem tby_6 : tby Tryd.prog 6 = 1 := by kernel_rfl
@[simp] theorem az_6 : azero Tryd.prog 6 = AV.c (Value.int .u8 0) := by kernel_rfl
@[simp] theorem tk_7 : tk Tryd.prog 7 = .strct := by kernel_rfl
@[simp] theorem tsz_7 : tsz Tryd.prog 7 = 4 := by kernel_rfl
@[simp] theorem tby_7 : tby Tryd.prog 7 = 24 := by kernel_rfl
@[simp] theorem az_7 : azero Tryd.prog 7 = AV.agg [AV.c (Value.int .i64 0), AV.c (Value.int .i64 0), AV.c (Value.bool false), AV.c (Value.int .u8 0)] := by kernel_rfl
@[simp] theorem plc_7 : plc Tryd.prog 7 = some [(0, 1), (1, 1), (2, 1), (3, 1)] := by kernel_rfl
@[simp] theorem tk_8 : tk Tryd.prog 8 = .strct := by kernel_rfl
@[simp] theorem tsz_8 : tsz Tryd.prog 8 = 4 := by kernel_rfl
@[simp] theorem tby_8 : tby Tryd.prog 8 = 24 := by kernel_rfl
@[simp] theorem az_8 : azero Tryd.prog 8 = AV.agg [AV.c (Value.int .i64 0), AV.c (Value.int .i64 0), AV.c (Value.bool false), AV.c (Value.int .u8 0)] := by kernel_rfl
@[simp] theorem plc_8 : plc Tryd.prog 8 = some [(0, 1), (1, 1), (2, 1), (3, 1)] := by kernel_rfl
@[simp] theorem tk_9 : tk Tryd.prog 9 = .str := by kernel_rfl
@[simp] theorem tsz_9 : tsz Tryd.prog 9 = 1 := by kernel_rfl
@[simp] theorem tby_9 : tby Tryd.prog 9 = 16 := by kernel_rfl
@[simp] theorem az_9 : azero Tryd.prog 9 = AV.c (Value.string (⟨#[]⟩ : ByteArray)) := by kernel_rfl
@[simp] theorem tk_10 : tk Tryd.prog 10 = .str := by kernel_rfl
@[simp] theorem tsz_10 : tsz Tryd.prog 10 = 1 := by kernel_rfl
@[simp] theorem tby_10 : tby Tryd.prog 10 = 16 := by kernel_rfl
@[simp] theorem az_10 : azero Tryd.prog 10 = AV.c (Value.string (⟨#[]⟩ : ByteArray)) := by kernel_rfl
@[simp] theorem tk_11 : tk Tryd.prog 11 = .str := by kernel_rfl
@[simp] theorem tsz_11 : tsz Tryd.prog 11 = 1 := by kernel_rfl
@[simp] theorem tby_11 : tby Tryd.prog 11 = 16 := by kernel_rfl
@[simp] theorem az_11 : azero Tryd.prog 11 = AV.c (Value.string (⟨#[]⟩ : ByteArray)) := by kernel_rfl
@[simp] theorem tk_12 : tk Tryd.prog 12 = .int .u64 := by kernel_rfl
@[simp] theorem tsz_12 : tsz Tryd.prog 12 = 1 := by kernel_rfl
@[simp] theorem tby_12 : tby Tryd.prog 12 = 8 := by kernel_rfl
@[simp] theorem az_12 : azero Tryd.prog 12 = AV.c (Value.int .u64 0) := by kernel_rfl
@[simp] theorem tk_13 : tk Tryd.prog 13 = .strct := by kernel_rfl
@[simp] theorem tsz_13 : tsz Tryd.prog 13 = 2 := by kernel_rfl
@[simp] theorem tby_13 : tby Tryd.prog 13 = 24 := by kernel_rfl
@[simp] theorem az_13 : azero Tryd.prog 13 = AV.agg [AV.c (Value.string (⟨#[]⟩ : ByteArray)), AV.c (Value.int .u64 0)] := by kernel_rfl
@[simp] theorem plc_13 : plc Tryd.prog 13 = some [(0, 1), (1, 1)] := by kernel_rfl
@[simp] theorem tk_14 : tk Tryd.prog 14 = .strct := by kernel_rfl
@[simp] theorem tsz_14 : tsz Tryd.prog 14 = 2 := by kernel_rfl
@[simp] theorem tby_14 : tby Tryd.prog 14 = 24 := by kernel_rfl
@[simp] theorem az_14 : azero Tryd.prog 14 = AV.agg [AV.c (Value.string (⟨#[]⟩ : ByteArray)), AV.c (Value.int .u64 0)] := by kernel_rfl
@[simp] theorem plc_14 : plc Tryd.prog 14 = some [(0, 1), (1, 1)] := by kernel_rfl
@[simp] theorem tk_15 : tk Tryd.prog 15 = .ptr 76 := by kernel_rfl
@[simp] theorem tsz_15 : tsz Tryd.prog 15 = 1 := by kernel_rfl
@[simp] theorem tby_15 : tby Tryd.prog 15 = 8 := by kernel_rfl
@[simp] theorem az_15 : azero Tryd.prog 15 = AV.c (Value.pointer none) := by kernel_rfl
@[simp] theorem tk_16 : tk Tryd.prog 16 = .ptr 79 := by kernel_rfl
@[simp] theorem tsz_16 : tsz Tryd.prog 16 = 1 := by kernel_rfl
@[simp] theorem tby_16 : tby Tryd.prog 16 = 8 := by kernel_rfl
@[simp] theorem az_16 : azero Tryd.prog 16 = AV.c (Value.pointer none) := by kernel_rfl
@[simp] theorem tk_17 : tk Tryd.prog 17 = .ptr 89 := by kernel_rfl
@[simp] theorem tsz_17 : tsz Tryd.prog 17 = 1 := by kernel_rfl
@[simp] theorem tby_17 : tby Tryd.prog 17 = 8 := by kernel_rfl
@[simp] theorem az_17 : azero Tryd.prog 17 = AV.c (Value.pointer none) := by kernel_rfl
@[simp] theorem tk_18 : tk Tryd.prog 18 = .strct := by kernel_rfl
@[simp] theorem tsz_18 : tsz Tryd.prog 18 = 1 := by kernel_rfl
@[simp] theorem tby_18 : tby Tryd.prog 18 = 8 := by kernel_rfl
@[simp] theorem az_18 : azero Tryd.prog 18 = AV.agg [AV.c (Value.pointer none)] := by kernel_rfl
@[simp] theorem plc_18 : plc Tryd.prog 18 = some [(0, 1)] := by kernel_rfl
@[simp] theorem tk_19 : tk Tryd.prog 19 = .strct := by kernel_rfl
@[simp] theorem tsz_19 : tsz Tryd.prog 19 = 1 := by kernel_rfl
@[simp] theorem tby_19 : tby Tryd.prog 19 = 8 := by kernel_rfl
@[simp] theorem az_19 : azero Tryd.prog 19 = AV.agg [AV.c (Value.pointer none)] := by kernel_rfl
@[simp] theorem plc_19 : plc Tryd.prog 19 = some [(0, 1)] := by kernel_rfl
@[simp] theorem tk_20 : tk Tryd.prog 20 = .ifc := by kernel_rfl
@[simp] theorem tsz_20 : tsz Tryd.prog 20 = 1 := by kernel_rfl
@[simp] theorem tby_20 : tby Tryd.prog 20 = 16 := by kernel_rfl
@[simp] theorem az_20 : azero Tryd.prog 20 = AV.c Value.nilIface := by kernel_rfl
@[simp] theorem tk_21 : tk Tryd.prog 21 = .int .i32 := by kernel_rfl
@[simp] theorem tsz_21 : tsz Tryd.prog 21 = 1 := by kernel_rfl
@[simp] theorem tby_21 : tby Tryd.prog 21 = 4 := by kernel_rfl
@[simp] theorem az_21 : azero Tryd.prog 21 = AV.c (Value.int .i32 0) := by kernel_rfl
@[simp] theorem tk_22 : tk Tryd.prog 22 = .slc 25 := by kernel_rfl
@[simp] theorem tsz_22 : tsz Tryd.prog 22 = 1 := by kernel_rfl
@[simp] theorem tby_22 : tby Tryd.prog 22 = 24 := by kernel_rfl
@[simp] theorem az_22 : azero Tryd.prog 22 = AV.nl := by kernel_rfl
@[simp] theorem tk_23 : tk Tryd.prog 23 = .slc 5 := by kernel_rfl
@[simp] theorem tsz_23 : tsz Tryd.prog 23 = 1 := by kernel_rfl
@[simp] theorem tby_23 : tby Tryd.prog 23 = 24 := by kernel_rfl
@[simp] theorem az_23 : azero Tryd.prog 23 = AV.nl := by kernel_rfl
@[simp] theorem tk_24 : tk Tryd.prog 24 = .strct := by kernel_rfl
@[simp] theorem tsz_24 : tsz Tryd.prog 24 = 6 := by kernel_rfl
@[simp] theorem tby_24 : tby Tryd.prog 24 = 72 := by kernel_rfl
@[simp] theorem az_24 : azero Tryd.prog 24 = AV.agg [AV.c (Value.string (⟨#[]⟩ : ByteArray)), AV.c (Value.int .i64 0), AV.c (Value.int .i64 0), AV.c (Value.int .i64 0), AV.c (Value.int .i64 0), AV.nl] := by kernel_rfl
@[simp] theorem plc_24 : plc Tryd.prog 24 = some [(0, 1), (1, 1), (2, 1), (3, 1), (4, 1), (5, 1)] := by kernel_rfl
@[simp] theorem tk_25 : tk Tryd.prog 25 = .strct := by kernel_rfl
@[simp] theorem tsz_25 : tsz Tryd.prog 25 = 6 := by kernel_rfl
@[simp] theorem tby_25 : tby Tryd.prog 25 = 72 := by kernel_rfl
@[simp] theorem az_25 : azero Tryd.prog 25 = AV.agg [AV.c (Value.string (⟨#[]⟩ : ByteArray)), AV.c (Value.int .i64 0), AV.c (Value.int .i64 0), AV.c (Value.int .i64 0), AV.c (Value.int .i64 0), AV.nl] := by kernel_rfl
@[simp] theorem plc_25 : plc Tryd.prog 25 = some [(0, 1), (1, 1), (2, 1), (3, 1), (4, 1), (5, 1)] := by kernel_rfl
@[simp] theorem tk_26 : tk Tryd.prog 26 = .strct := by kernel_rfl
@[simp] theorem tsz_26 : tsz Tryd.prog 26 = 2 := by kernel_rfl
@[simp] theorem tby_26 : tby Tryd.prog 26 = 24 := by kernel_rfl
@[simp] theorem az_26 : azero Tryd.prog 26 = AV.agg [AV.c (Value.int .i64 0), AV.c (Value.string (⟨#[]⟩ : ByteArray))] := by kernel_rfl
@[simp] theorem plc_26 : plc Tryd.prog 26 = some [(0, 1), (1, 1)] := by kernel_rfl
@[simp] theorem tk_27 : tk Tryd.prog 27 = .strct := by kernel_rfl
@[simp] theorem tsz_27 : tsz Tryd.prog 27 = 2 := by kernel_rfl
@[simp] theorem tby_27 : tby Tryd.prog 27 = 24 := by kernel_rfl
@[simp] theorem az_27 : azero Tryd.prog 27 = AV.agg [AV.c (Value.int .i64 0), AV.c (Value.string (⟨#[]⟩ : ByteArray))] := by kernel_rfl
@[simp] theorem plc_27 : plc Tryd.prog 27 = some [(0, 1), (1, 1)] := by kernel_rfl
@[simp] theorem tk_28 : tk Tryd.prog 28 = .fn := by kernel_rfl
@[simp] theorem tsz_28 : tsz Tryd.prog 28 = 1 := by kernel_rfl
@[simp] theorem tby_28 : tby Tryd.prog 28 = 8 := by kernel_rfl
@[simp] theorem az_28 : azero Tryd.prog 28 = AV.c Value.nilFunc := by kernel_rfl
@[simp] theorem tk_29 : tk Tryd.prog 29 = .fn := by kernel_rfl
@[simp] theorem tsz_29 : tsz Tryd.prog 29 = 1 := by kernel_rfl
@[simp] theorem tby_29 : tby Tryd.prog 29 = 8 := by kernel_rfl
@[simp] theorem az_29 : azero Tryd.prog 29 = AV.c Value.nilFunc := by kernel_rfl
@[simp] theorem tk_30 : tk Tryd.prog 30 = .int .i64 := by kernel_rfl
@[simp] theorem tsz_30 : tsz Tryd.prog 30 = 1 := by kernel_rfl
@[simp] theorem tby_30 : tby Tryd.prog 30 = 8 := by kernel_rfl
@[simp] theorem az_30 : azero Tryd.prog 30 = AV.c (Value.int .i64 0) := by kernel_rfl
@[simp] theorem tk_31 : tk Tryd.prog 31 = .other := by kernel_rfl
@[simp] theorem tsz_31 : tsz Tryd.prog 31 = 1 := by kernel_rfl
@[simp] theorem tby_31 : tby Tryd.prog 31 = 0 := by kernel_rfl
@[simp] theorem az_31 : azero Tryd.prog 31 = AV.junk := by kernel_rfl
@[simp] theorem tk_32 : tk Tryd.prog 32 = .fn := by kernel_rfl
@[simp] theorem tsz_32 : tsz Tryd.prog 32 = 1 := by kernel_rfl
@[simp] theorem tby_32 : tby Tryd.prog 32 = 8 := by kernel_rfl
@[simp] theorem az_32 : azero Tryd.prog 32 = AV.c Value.nilFunc := by kernel_rfl
@[simp] theorem tk_33 : tk Tryd.prog 33 = .strct := by kernel_rfl
@[simp] theorem tsz_33 : tsz Tryd.prog 33 = 2 := by kernel_rfl
@[simp] theorem tby_33 : tby Tryd.prog 33 = 24 := by kernel_rfl
@[simp] theorem az_33 : azero Tryd.prog 33 = AV.agg [AV.c (Value.int .i64 0), AV.c (Value.string (⟨#[]⟩ : ByteArray))] := by kernel_rfl
@[simp] theorem plc_33 : plc Tryd.prog 33 = some [(0, 1), (1, 1)] := by kernel_rfl
@[simp] theorem tk_34 : tk Tryd.prog 34 = .fn := by kernel_rfl
@[simp] theorem tsz_34 : tsz Tryd.prog 34 = 1 := by kernel_rfl
@[simp] theorem tby_34 : tby Tryd.prog 34 = 8 := by kernel_rfl
@[simp] theorem az_34 : azero Tryd.prog 34 = AV.c Value.nilFunc := by kernel_rfl
@[simp] theorem tk_35 : tk Tryd.prog 35 = .fn := by kernel_rfl
@[simp] theorem tsz_35 : tsz Tryd.prog 35 = 1 := by kernel_rfl
@[simp] theorem tby_35 : tby Tryd.prog 35 = 8 := by kernel_rfl
@[simp] theorem az_35 : azero Tryd.prog 35 = AV.c Value.nilFunc := by kernel_rfl
@[simp] theorem tk_36 : tk Tryd.prog 36 = .fn := by kernel_rfl
@[simp] theorem tsz_36 : tsz Tryd.prog 36 = 1 := by kernel_rfl
@[simp] theorem tby_36 : tby Tryd.prog 36 = 8 := by kernel_rfl
@[simp] theorem az_36 : azero Tryd.prog 36 = AV.c Value.nilFunc := by kernel_rfl
@[simp] theorem tk_37 : tk Tryd.prog 37 = .fn := by kernel_rfl
@[simp] theorem tsz_37 : tsz Tryd.prog 37 = 1 := by kernel_rfl
@[simp] theorem tby_37 : tby Tryd.prog 37 = 8 := by kernel_rfl
@[simp] theorem az_37 : azero Tryd.prog 37 = AV.c Value.nilFunc := by kernel_rfl
@[simp] theorem tk_38 : tk Tryd.prog 38 = .fn := by kernel_rfl
@[simp] theorem tsz_38 : tsz Tryd.prog 38 = 1 := by kernel_rfl
@[simp] theorem tby_38 : tby Tryd.prog 38 = 8 := by kernel_rfl
@[simp] theorem az_38 : azero Tryd.prog 38 = AV.c Value.nilFunc := by kernel_rfl
@[simp] theorem tk_39 : tk Tryd.prog 39 = .fn := by kernel_rfl
@[simp] theorem tsz_39 : tsz Tryd.prog 39 = 1 := by kernel_rfl
@[simp] theorem tby_39 : tby Tryd.prog 39 = 8 := by kernel_rfl
@[simp] theorem az_39 : azero Tryd.prog 39 = AV.c Value.nilFunc := by kernel_rfl
@[simp] theorem tk_40 : tk Tryd.prog 40 = .fn := by kernel_rfl
@[simp] theorem tsz_40 : tsz Tryd.prog 40 = 1 := by kernel_rfl
@[simp] theorem tby_40 : tby Tryd.prog 40 = 8 := by kernel_rfl
@[simp] theorem az_40 : azero Tryd.prog 40 = AV.c Value.nilFunc := by kernel_rfl
@[simp] theorem tk_41 : tk Tryd.prog 41 = .fn := by kernel_rfl
@[simp] theorem tsz_41 : tsz Tryd.prog 41 = 1 := by kernel_rfl
@[simp] theorem tby_41 : tby Tryd.prog 41 = 8 := by kernel_rfl
@[simp] theorem az_41 : azero Tryd.prog 41 = AV.c Value.nilFunc := by kernel_rfl
@[simp] theorem tk_42 : tk Tryd.prog 42 = .other := by kernel_rfl
@[simp] theorem tsz_42 : tsz Tryd.prog 42 = 1 := by kernel_rfl
@[simp] theorem tby_42 : tby Tryd.prog 42 = 0 := by kernel_rfl
@[simp] theorem az_42 : azero Tryd.prog 42 = AV.junk := by kernel_rfl
@[simp] theorem tk_43 : tk Tryd.prog 43 = .fn := by kernel_rfl
@[simp] theorem tsz_43 : tsz Tryd.prog 43 = 1 := by kernel_rfl
@[simp] theorem tby_43 : tby Tryd.prog 43 = 8 := by kernel_rfl
@[simp] theorem az_43 : azero Tryd.prog 43 = AV.c Value.nilFunc := by kernel_rfl
@[simp] theorem tk_44 : tk Tryd.prog 44 = .fn := by kernel_rfl
@[simp] theorem tsz_44 : tsz Tryd.prog 44 = 1 := by kernel_rfl
@[simp] theorem tby_44 : tby Tryd.prog 44 = 8 := by kernel_rfl
@[simp] theorem az_44 : azero Tryd.prog 44 = AV.c Value.nilFunc := by kernel_rfl
@[simp] theorem tk_45 : tk Tryd.prog 45 = .fn := by kernel_rfl
@[simp] theorem tsz_45 : tsz Tryd.prog 45 = 1 := by kernel_rfl
@[simp] theorem tby_45 : tby Tryd.prog 45 = 8 := by kernel_rfl
@[simp] theorem az_45 : azero Tryd.prog 45 = AV.c Value.nilFunc := by kernel_rfl
@[simp] theorem tk_46 : tk Tryd.prog 46 = .fn := by kernel_rfl
@[simp] theorem tsz_46 : tsz Tryd.prog 46 = 1 := by kernel_rfl
@[simp] theorem tby_46 : tby Tryd.prog 46 = 8 := by kernel_rfl
@[simp] theorem az_46 : azero Tryd.prog 46 = AV.c Value.nilFunc := by kernel_rfl
@[simp] theorem tk_47 : tk Tryd.prog 47 = .other := by kernel_rfl
@[simp] theorem tsz_47 : tsz Tryd.prog 47 = 1 := by kernel_rfl
@[simp] theorem tby_47 : tby Tryd.prog 47 = 0 := by kernel_rfl
@[simp] theorem az_47 : azero Tryd.prog 47 = AV.junk := by kernel_rfl
@[simp] theorem tk_48 : tk Tryd.prog 48 = .fn := by kernel_rfl
@[simp] theorem tsz_48 : tsz Tryd.prog 48 = 1 := by kernel_rfl
@[simp] theorem tby_48 : tby Tryd.prog 48 = 8 := by kernel_rfl
@[simp] theorem az_48 : azero Tryd.prog 48 = AV.c Value.nilFunc := by kernel_rfl
@[simp] theorem tk_49 : tk Tryd.prog 49 = .fn := by kernel_rfl
@[simp] theorem tsz_49 : tsz Tryd.prog 49 = 1 := by kernel_rfl
@[simp] theorem tby_49 : tby Tryd.prog 49 = 8 := by kernel_rfl
@[simp] theorem az_49 : azero Tryd.prog 49 = AV.c Value.nilFunc := by kernel_rfl
@[simp] theorem tk_50 : tk Tryd.prog 50 = .slc 9 := by kernel_rfl
@[simp] theorem tsz_50 : tsz Tryd.prog 50 = 1 := by kernel_rfl
@[simp] theorem tby_50 : tby Tryd.prog 50 = 24 := by kernel_rfl
@[simp] theorem az_50 : azero Tryd.prog 50 = AV.nl := by kernel_rfl
@[simp] theorem tk_51 : tk Tryd.prog 51 = .fn := by kernel_rfl
@[simp] theorem tsz_51 : tsz Tryd.prog 51 = 1 := by kernel_rfl
@[simp] theorem tby_51 : tby Tryd.prog 51 = 8 := by kernel_rfl
@[simp] theorem az_51 : azero Tryd.prog 51 = AV.c Value.nilFunc := by kernel_rfl
@[simp] theorem tk_52 : tk Tryd.prog 52 = .fn := by kernel_rfl
@[simp] theorem tsz_52 : tsz Tryd.prog 52 = 1 := by kernel_rfl
@[simp] theorem tby_52 : tby Tryd.prog 52 = 8 := by kernel_rfl
@[simp] theorem az_52 : azero Tryd.prog 52 = AV.c Value.nilFunc := by kernel_rfl
@[simp] theorem tk_53 : tk Tryd.prog 53 = .fn := by kernel_rfl
@[simp] theorem tsz_53 : tsz Tryd.prog 53 = 1 := by kernel_rfl
@[simp] theorem tby_53 : tby Tryd.prog 53 = 8 := by kernel_rfl
@[simp] theorem az_53 : azero Tryd.prog 53 = AV.c Value.nilFunc := by kernel_rfl
@[simp] theorem tk_54 : tk Tryd.prog 54 = .fn := by kernel_rfl
@[simp] theorem tsz_54 : tsz Tryd.prog 54 = 1 := by kernel_rfl
@[simp] theorem tby_54 : tby Tryd.prog 54 = 8 := by kernel_rfl
@[simp] theorem az_54 : azero Tryd.prog 54 = AV.c Value.nilFunc := by kernel_rfl
@[simp] theorem tk_55 : tk Tryd.prog 55 = .fn := by kernel_rfl
@[simp] theorem tsz_55 : tsz Tryd.prog 55 = 1 := by kernel_rfl
@[simp] theorem tby_55 : tby Tryd.prog 55 = 8 := by kernel_rfl
@[simp] theorem az_55 : azero Tryd.prog 55 = AV.c Value.nilFunc := by kernel_rfl
@[simp] theorem tk_56 : tk Tryd.prog 56 = .other := by kernel_rfl
@[simp] theorem tsz_56 : tsz Tryd.prog 56 = 1 := by kernel_rfl
@[simp] theorem tby_56 : tby Tryd.prog 56 = 0 := by kernel_rfl
@[simp] theorem az_56 : azero Tryd.prog 56 = AV.junk := by kernel_rfl
@[simp] theorem tk_57 : tk Tryd.prog 57 = .fn := by kernel_rfl
@[simp] theorem tsz_57 : tsz Tryd.prog 57 = 1 := by kernel_rfl
@[simp] theorem tby_57 : tby Tryd.prog 57 = 8 := by kernel_rfl
@[simp] theorem az_57 : azero Tryd.prog 57 = AV.c Value.nilFunc := by kernel_rfl
@[simp] theorem tk_58 : tk Tryd.prog 58 = .fn := by kernel_rfl
@[simp] theorem tsz_58 : tsz Tryd.prog 58 = 1 := by kernel_rfl
@[simp] theorem tby_58 : tby Tryd.prog 58 = 8 := by kernel_rfl
@[simp] theorem az_58 : azero Tryd.prog 58 = AV.c Value.nilFunc := by kernel_rfl
@[simp] theorem tk_59 : tk Tryd.prog 59 = .fn := by kernel_rfl
@[simp] theorem tsz_59 : tsz Tryd.prog 59 = 1 := by kernel_rfl
@[simp] theorem tby_59 : tby Tryd.prog 59 = 8 := by kernel_rfl
@[simp] theorem az_59 : azero Tryd.prog 59 = AV.c Value.nilFunc := by kernel_rfl
@[simp] theorem tk_60 : tk Tryd.prog 60 = .fn := by kernel_rfl
@[simp] theorem tsz_60 : tsz Tryd.prog 60 = 1 := by kernel_rfl
@[simp] theorem tby_60 : tby Tryd.prog 60 = 8 := by kernel_rfl
@[simp] theorem az_60 : azero Tryd.prog 60 = AV.c Value.nilFunc := by kernel_rfl
@[simp] theorem tk_61 : tk Tryd.prog 61 = .fn := by kernel_rfl
@[simp] theorem tsz_61 : tsz Tryd.prog 61 = 1 := by kernel_rfl
@[simp] theorem tby_61 : tby Tryd.prog 61 = 8 := by kernel_rfl
@[simp] theorem az_61 : azero Tryd.prog 61 = AV.c Value.nilFunc := by kernel_rfl
@[simp] theorem tk_62 : tk Tryd.prog 62 = .fn := by kernel_rfl
@[simp] theorem tsz_62 : tsz Tryd.prog 62 = 1 := by kernel_rfl
@[simp] theorem tby_62 : tby Tryd.prog 62 = 8 := by kernel_rfl
@[simp] theorem az_62 : azero Tryd.prog 62 = AV.c Value.nilFunc := by kernel_rfl
@[simp] theorem tk_63 : tk Tryd.prog 63 = .fn := by kernel_rfl
@[simp] theorem tsz_63 : tsz Tryd.prog 63 = 1 := by kernel_rfl
@[simp] theorem tby_63 : tby Tryd.prog 63 = 8 := by kernel_rfl
@[simp] theorem az_63 : azero Tryd.prog 63 = AV.c Value.nilFunc := by kernel_rfl
@[simp] theorem tk_64 : tk Tryd.prog 64 = .other := by kernel_rfl
@[simp] theorem tsz_64 : tsz Tryd.prog 64 = 1 := by kernel_rfl
@[simp] theorem tby_64 : tby Tryd.prog 64 = 0 := by kernel_rfl
@[simp] theorem az_64 : azero Tryd.prog 64 = AV.junk := by kernel_rfl
@[simp] theorem tk_65 : tk Tryd.prog 65 = .fn := by kernel_rfl
@[simp] theorem tsz_65 : tsz Tryd.prog 65 = 1 := by kernel_rfl
@[simp] theorem tby_65 : tby Tryd.prog 65 = 8 := by kernel_rfl
@[simp] theorem az_65 : azero Tryd.prog 65 = AV.c Value.nilFunc := by kernel_rfl
@[simp] theorem tk_66 : tk Tryd.prog 66 = .fn := by kernel_rfl
@[simp] theorem tsz_66 : tsz Tryd.prog 66 = 1 := by kernel_rfl
@[simp] theorem tby_66 : tby Tryd.prog 66 = 8 := by kernel_rfl
@[simp] theorem az_66 : azero Tryd.prog 66 = AV.c Value.nilFunc := by kernel_rfl
@[simp] theorem tk_67 : tk Tryd.prog 67 = .fn := by kernel_rfl
@[simp] theorem tsz_67 : tsz Tryd.prog 67 = 1 := by kernel_rfl
@[simp] theorem tby_67 : tby Tryd.prog 67 = 8 := by kernel_rfl
@[simp] theorem az_67 : azero Tryd.prog 67 = AV.c Value.nilFunc := by kernel_rfl
@[simp] theorem tk_68 : tk Tryd.prog 68 = .fn := by kernel_rfl
@[simp] theorem tsz_68 : tsz Tryd.prog 68 = 1 := by kernel_rfl
@[simp] theorem tby_68 : tby Tryd.prog 68 = 8 := by kernel_rfl
@[simp] theorem az_68 : azero Tryd.prog 68 = AV.c Value.nilFunc := by kernel_rfl
@[simp] theorem tk_69 : tk Tryd.prog 69 = .fn := by kernel_rfl
@[simp] theorem tsz_69 : tsz Tryd.prog 69 = 1 := by kernel_rfl
@[simp] theorem tby_69 : tby Tryd.prog 69 = 8 := by kernel_rfl
@[simp] theorem az_69 : azero Tryd.prog 69 = AV.c Value.nilFunc := by kernel_rfl
@[simp] theorem tk_70 : tk Tryd.prog 70 = .strct := by kernel_rfl
@[simp] theorem tsz_70 : tsz Tryd.prog 70 = 2 := by kernel_rfl
@[simp] theorem tby_70 : tby Tryd.prog 70 = 16 := by kernel_rfl
@[simp] theorem az_70 : azero Tryd.prog 70 = AV.agg [AV.c (Value.bool false), AV.c Value.nilFunc] := by kernel_rfl
@[simp] theorem plc_70 : plc Tryd.prog 70 = some [(0, 1), (1, 1)] := by kernel_rfl
@[simp] theorem tk_71 : tk Tryd.prog 71 = .strct := by kernel_rfl
@[simp] theorem tsz_71 : tsz Tryd.prog 71 = 2 := by kernel_rfl
@[simp] theorem tby_71 : tby Tryd.prog 71 = 16 := by kernel_rfl
@[simp] theorem az_71 : azero Tryd.prog 71 = AV.agg [AV.c (Value.bool false), AV.c Value.nilFunc] := by kernel_rfl
@[simp] theorem plc_71 : plc Tryd.prog 71 = some [(0, 1), (1, 1)] := by kernel_rfl
@[simp] theorem tk_72 : tk Tryd.prog 72 = .arr 3 71 := by kernel_rfl
@[simp] theorem tsz_72 : tsz Tryd.prog 72 = 6 := by kernel_rfl
@[simp] theorem tby_72 : tby Tryd.prog 72 = 48 := by kernel_rfl
@[simp] theorem az_72 : azero Tryd.prog 72 = AV.agg [AV.c (Value.bool false), AV.c Value.nilFunc, AV.c (Value.bool false), AV.c Value.nilFunc, AV.c (Value.bool false), AV.c Value.nilFunc] := by kernel_rfl
@[simp] theorem plc_72 : plc Tryd.prog 72 = some [(0, 2), (2, 2), (4, 2)] := by kernel_rfl
@[simp] theorem tk_73 : tk Tryd.prog 73 = .fn := by kernel_rfl
@[simp] theorem tsz_73 : tsz Tryd.prog 73 = 1 := by kernel_rfl
@[simp] theorem tby_73 : tby Tryd.prog 73 = 8 := by kernel_rfl
@[simp] theorem az_73 : azero Tryd.prog 73 = AV.c Value.nilFunc := by kernel_rfl
@[simp] theorem tk_74 : tk Tryd.prog 74 = .fn := by kernel_rfl
@[simp] theorem tsz_74 : tsz Tryd.prog 74 = 1 := by kernel_rfl
@[simp] theorem tby_74 : tby Tryd.prog 74 = 8 := by kernel_rfl
@[simp] theorem az_74 : azero Tryd.prog 74 = AV.c Value.nilFunc := by kernel_rfl
@[simp] theorem tk_75 : tk Tryd.prog 75 = .strct := by kernel_rfl
@[simp] theorem tsz_75 : tsz Tryd.prog 75 = 4 := by kernel_rfl
@[simp] theorem tby_75 : tby Tryd.prog 75 = 40 := by kernel_rfl
@[simp] theorem az_75 : azero Tryd.prog 75 = AV.agg [AV.c (Value.pointer none), AV.c (Value.pointer none), AV.c (Value.pointer none), AV.c (Value.string (⟨#[]⟩ : ByteArray))] := by kernel_rfl
@[simp] theorem plc_75 : plc Tryd.prog 75 = some [(0, 1), (1, 1), (2, 1), (3, 1)] := by kernel_rfl
@[simp] theorem tk_76 : tk Tryd.prog 76 = .strct := by kernel_rfl
@[simp] theorem tsz_76 : tsz Tryd.prog 76 = 4 := by kernel_rfl
@[simp] theorem tby_76 : tby Tryd.prog 76 = 40 := by kernel_rfl
@[simp] theorem az_76 : azero Tryd.prog 76 = AV.agg [AV.c (Value.pointer none), AV.c (Value.pointer none), AV.c (Value.pointer none), AV.c (Value.string (⟨#[]⟩ : ByteArray))] := by kernel_rfl
@[simp] theorem plc_76 : plc Tryd.prog 76 = some [(0, 1), (1, 1), (2, 1), (3, 1)] := by kernel_rfl
@[simp] theorem tk_77 : tk Tryd.prog 77 = .arr 0 16 := by kernel_rfl
@[simp] theorem tsz_77 : tsz Tryd.prog 77 = 0 := by kernel_rfl
@[simp] theorem tby_77 : tby Tryd.prog 77 = 0 := by kernel_rfl
@[simp] theorem az_77 : azero Tryd.prog 77 = AV.agg [] := by kernel_rfl
@[simp] theorem plc_77 : plc Tryd.prog 77 = some [] := by kernel_rfl
@[simp] theorem tk_78 : tk Tryd.prog 78 = .strct := by kernel_rfl
@[simp] theorem tsz_78 : tsz Tryd.prog 78 = 0 := by kernel_rfl
@[simp] theorem tby_78 : tby Tryd.prog 78 = 0 := by kernel_rfl
@[simp] theorem az_78 : azero Tryd.prog 78 = AV.agg [] := by kernel_rfl
@[simp] theorem plc_78 : plc Tryd.prog 78 = some [(0, 0)] := by kernel_rfl
@[simp] theorem tk_79 : tk Tryd.prog 79 = .strct := by kernel_rfl
@[simp] theorem tsz_79 : tsz Tryd.prog 79 = 0 := by kernel_rfl
@[simp] theorem tby_79 : tby Tryd.prog 79 = 0 := by kernel_rfl
@[simp] theorem az_79 : azero Tryd.prog 79 = AV.agg [] := by kernel_rfl
@[simp] theorem plc_79 : plc Tryd.prog 79 = some [(0, 0)] := by kernel_rfl
@[simp] theorem tk_80 : tk Tryd.prog 80 = .fn := by kernel_rfl
@[simp] theorem tsz_80 : tsz Tryd.prog 80 = 1 := by kernel_rfl
@[simp] theorem tby_80 : tby Tryd.prog 80 = 8 := by kernel_rfl
@[simp] theorem az_80 : azero Tryd.prog 80 = AV.c Value.nilFunc := by kernel_rfl
@[simp] theorem tk_81 : tk Tryd.prog 81 = .int .u32 := by kernel_rfl
@[simp] theorem tsz_81 : tsz Tryd.prog 81 = 1 := by kernel_rfl
@[simp] theorem tby_81 : tby Tryd.prog 81 = 4 := by kernel_rfl
@[simp] theorem az_81 : azero Tryd.prog 81 = AV.c (Value.int .u32 0) := by kernel_rfl
@[simp] theorem tk_82 : tk Tryd.prog 82 = .int .u8 := by kernel_rfl
@[simp] theorem tsz_82 : tsz Tryd.prog 82 = 1 := by kernel_rfl
@[simp] theorem tby_82 : tby Tryd.prog 82 = 1 := by kernel_rfl
@[simp] theorem az_82 : azero Tryd.prog 82 = AV.c (Value.int .u8 0) := by kernel_rfl
@[simp] theorem tk_83 : tk Tryd.prog 83 = .int .u8 := by kernel_rfl
@[simp] theorem tsz_83 : tsz Tryd.prog 83 = 1 := by kernel_rfl
@[simp] theorem tby_83 : tby Tryd.prog 83 = 1 := by kernel_rfl
@[simp] theorem az_83 : azero Tryd.prog 83 = AV.c (Value.int .u8 0) := by kernel_rfl
@[simp] theorem tk_84 : tk Tryd.prog 84 = .fn := by kernel_rfl
@[simp] theorem tsz_84 : tsz Tryd.prog 84 = 1 := by kernel_rfl
@[simp] theorem tby_84 : tby Tryd.prog 84 = 8 := by kernel_rfl
@[simp] theorem az_84 : azero Tryd.prog 84 = AV.c Value.nilFunc := by kernel_rfl
@[simp] theorem tk_85 : tk Tryd.prog 85 = .ptr 5 := by kernel_rfl
@[simp] theorem tsz_85 : tsz Tryd.prog 85 = 1 := by kernel_rfl
@[simp] theorem tby_85 : tby Tryd.prog 85 = 8 := by kernel_rfl
@[simp] theorem az_85 : azero Tryd.prog 85 = AV.c (Value.pointer none) := by kernel_rfl
@[simp] theorem tk_86 : tk Tryd.prog 86 = .int .i32 := by kernel_rfl
@[simp] theorem tsz_86 : tsz Tryd.prog 86 = 1 := by kernel_rfl
@[simp] theorem tby_86 : tby Tryd.prog 86 = 4 := by kernel_rfl
@[simp] theorem az_86 : azero Tryd.prog 86 = AV.c (Value.int .i32 0) := by kernel_rfl
@[simp] theorem tk_87 : tk Tryd.prog 87 = .int .i32 := by kernel_rfl
@[simp] theorem tsz_87 : tsz Tryd.prog 87 = 1 := by kernel_rfl
@[simp] theorem tby_87 : tby Tryd.prog 87 = 4 := by kernel_rfl
@[simp] theorem az_87 : azero Tryd.prog 87 = AV.c (Value.int .i32 0) := by kernel_rfl
@[simp] theorem tk_88 : tk Tryd.prog 88 = .strct := by kernel_rfl
@[simp] theorem tsz_88 : tsz Tryd.prog 88 = 11 := by kernel_rfl
@[simp] theorem tby_88 : tby Tryd.prog 88 = 48 := by kernel_rfl
@[simp] theorem az_88 : azero Tryd.prog 88 = AV.agg [AV.c (Value.int .u64 0), AV.c (Value.int .u64 0), AV.c (Value.int .u32 0), AV.c (Value.int .u8 0), AV.c (Value.int .u8 0), AV.c (Value.int .u8 0), AV.c (Value.int .u8 0), AV.c Value.nilFunc, AV.c (Value.pointer none), AV.c (Value.int .i32 0), AV.c (Value.int .i32 0)] := by kernel_rfl
@[simp] theorem plc_88 : plc Tryd.prog 88 = some [(0, 1), (1, 1), (2, 1), (3, 1), (4, 1), (5, 1), (6, 1), (7, 1), (8, 1), (9, 1), (10, 1)] := by kernel_rfl
@[simp] theorem tk_89 : tk Tryd.prog 89 = .strct := by kernel_rfl
@[simp] theorem tsz_89 : tsz Tryd.prog 89 = 11 := by kernel_rfl
@[simp] theorem tby_89 : tby Tryd.prog 89 = 48 := by kernel_rfl
@[simp] theorem az_89 : azero Tryd.prog 89 = AV.agg [AV.c (Value.int .u64 0), AV.c (Value.int .u64 0), AV.c (Value.int .u32 0), AV.c (Value.int .u8 0), AV.c (Value.int .u8 0), AV.c (Value.int .u8 0), AV.c (Value.int .u8 0), AV.c Value.nilFunc, AV.c (Value.pointer none), AV.c (Value.int .i32 0), AV.c (Value.int .i32 0)] := by kernel_rfl
@[simp] theorem plc_89 : plc Tryd.prog 89 = some [(0, 1), (1, 1), (2, 1), (3, 1), (4, 1), (5, 1), (6, 1), (7, 1), (8, 1), (9, 1), (10, 1)] := by kernel_rfl
@[simp] theorem tk_90 : tk Tryd.prog 90 = .other := by kernel_rfl
@[simp] theorem tsz_90 : tsz Tryd.prog 90 = 1 := by kernel_rfl
@[simp] theorem tby_90 : tby Tryd.prog 90 = 8 := by kernel_rfl
@[simp] theorem az_90 : azero Tryd.prog 90 = AV.c (Value.pointer none) := by kernel_rfl
@[simp] theorem fld_7_0 : fld Tryd.prog 7 0 = some (0, 2) := by kernel_rfl
@[simp] theorem fld_7_1 : fld Tryd.prog 7 1 = some (1, 3) := by kernel_rfl
@[simp] theorem fld_7_2 : fld Tryd.prog 7 2 = some (2, 4) := by kernel_rfl
@[simp] theorem fld_7_3 : fld Tryd.prog 7 3 = some (3, 6) := by kernel_rfl
@[simp] theorem fld_8_0 : fld Tryd.prog 8 0 = some (0, 2) := by kernel_rfl
@[simp] theorem fld_8_1 : fld Tryd.prog 8 1 = some (1, 3) := by kernel_rfl
@[simp] theorem fld_8_2 : fld Tryd.prog 8 2 = some (2, 4) := by kernel_rfl
@[simp] theorem fld_8_3 : fld Tryd.prog 8 3 = some (3, 6) := by kernel_rfl
@[simp] theorem fld_13_0 : fld Tryd.prog 13 0 = some (0, 9) := by kernel_rfl
@[simp] theorem fld_13_1 : fld Tryd.prog 13 1 = some (1, 12) := by kernel_rfl
@[simp] theorem fld_14_0 : fld Tryd.prog 14 0 = some (0, 9) := by kernel_rfl
@[simp] theorem fld_14_1 : fld Tryd.prog 14 1 = some (1, 12) := by kernel_rfl
@[simp] theorem fld_18_0 : fld Tryd.prog 18 0 = some (0, 17) := by kernel_rfl
@[simp] theorem fld_19_0 : fld Tryd.prog 19 0 = some (0, 17) := by kernel_rfl
@[simp] theorem fld_24_0 : fld Tryd.prog 24 0 = some (0, 9) := by kernel_rfl
@[simp] theorem fld_24_1 : fld Tryd.prog 24 1 = some (1, 3) := by kernel_rfl
@[simp] theorem fld_24_2 : fld Tryd.prog 24 2 = some (2, 3) := by kernel_rfl
@[simp] theorem fld_24_3 : fld Tryd.prog 24 3 = some (3, 3) := by kernel_rfl
@[simp] theorem fld_24_4 : fld Tryd.prog 24 4 = some (4, 3) := by kernel_rfl
@[simp] theorem fld_24_5 : fld Tryd.prog 24 5 = some (5, 23) := by kernel_rfl
@[simp] theorem fld_25_0 : fld Tryd.prog 25 0 = some (0, 9) := by kernel_rfl
@[simp] theorem fld_25_1 : fld Tryd.prog 25 1 = some (1, 3) := by kernel_rfl
@[simp] theorem fld_25_2 : fld Tryd.prog 25 2 = some (2, 3) := by kernel_rfl
@[simp] theorem fld_25_3 : fld Tryd.prog 25 3 = some (3, 3) := by kernel_rfl
@[simp] theorem fld_25_4 : fld Tryd.prog 25 4 = some (4, 3) := by kernel_rfl
@[simp] theorem fld_25_5 : fld Tryd.prog 25 5 = some (5, 23) := by kernel_rfl
@[simp] theorem fld_26_0 : fld Tryd.prog 26 0 = some (0, 3) := by kernel_rfl
@[simp] theorem fld_26_1 : fld Tryd.prog 26 1 = some (1, 9) := by kernel_rfl
@[simp] theorem fld_27_0 : fld Tryd.prog 27 0 = some (0, 3) := by kernel_rfl
@[simp] theorem fld_27_1 : fld Tryd.prog 27 1 = some (1, 9) := by kernel_rfl
@[simp] theorem fld_33_0 : fld Tryd.prog 33 0 = some (0, 3) := by kernel_rfl
@[simp] theorem fld_33_1 : fld Tryd.prog 33 1 = some (1, 9) := by kernel_rfl
@[simp] theorem fld_70_0 : fld Tryd.prog 70 0 = some (0, 4) := by kernel_rfl
@[simp] theorem fld_70_1 : fld Tryd.prog 70 1 = some (1, 69) := by kernel_rfl
@[simp] theorem fld_71_0 : fld Tryd.prog 71 0 = some (0, 4) := by kernel_rfl
@[simp] theorem fld_71_1 : fld Tryd.prog 71 1 = some (1, 69) := by kernel_rfl
@[simp] theorem fld_75_0 : fld Tryd.prog 75 0 = some (0, 17) := by kernel_rfl
@[simp] theorem fld_75_1 : fld Tryd.prog 75 1 = some (1, 17) := by kernel_rfl
@[simp] theorem fld_75_2 : fld Tryd.prog 75 2 = some (2, 17) := by kernel_rfl
@[simp] theorem fld_75_3 : fld Tryd.prog 75 3 = some (3, 9) := by kernel_rfl
@[simp] theorem fld_76_0 : fld Tryd.prog 76 0 = some (0, 17) := by kernel_rfl
@[simp] theorem fld_76_1 : fld Tryd.prog 76 1 = some (1, 17) := by kernel_rfl
@[simp] theorem fld_76_2 : fld Tryd.prog 76 2 = some (2, 17) := by kernel_rfl
@[simp] theorem fld_76_3 : fld Tryd.prog 76 3 = some (3, 9) := by kernel_rfl
@[simp] theorem fld_78_0 : fld Tryd.prog 78 0 = none := by kernel_rfl
@[simp] theorem fld_79_0 : fld Tryd.prog 79 0 = none := by kernel_rfl
@[simp] theorem fld_88_0 : fld Tryd.prog 88 0 = some (0, 12) := by kernel_rfl
@[simp] theorem fld_88_1 : fld Tryd.prog 88 1 = some (1, 12) := by kernel_rfl
@[simp] theorem fld_88_2 : fld Tryd.prog 88 2 = some (2, 81) := by kernel_rfl
@[simp] theorem fld_88_3 : fld Tryd.prog 88 3 = some (3, 82) := by kernel_rfl
@[simp] theorem fld_88_4 : fld Tryd.prog 88 4 = some (4, 5) := by kernel_rfl
@[simp] theorem fld_88_5 : fld Tryd.prog 88 5 = some (5, 5) := by kernel_rfl
@[simp] theorem fld_88_6 : fld Tryd.prog 88 6 = some (6, 83) := by kernel_rfl
@[simp] theorem fld_88_7 : fld Tryd.prog 88 7 = some (7, 84) := by kernel_rfl
@[simp] theorem fld_88_8 : fld Tryd.prog 88 8 = some (8, 85) := by kernel_rfl
@[simp] theorem fld_88_9 : fld Tryd.prog 88 9 = some (9, 86) := by kernel_rfl
@[simp] theorem fld_88_10 : fld Tryd.prog 88 10 = some (10, 87) := by kernel_rfl
@[simp] theorem fld_89_0 : fld Tryd.prog 89 0 = some (0, 12) := by kernel_rfl
@[simp] theorem fld_89_1 : fld Tryd.prog 89 1 = some (1, 12) := by kernel_rfl
@[simp] theorem fld_89_2 : fld Tryd.prog 89 2 = some (2, 81) := by kernel_rfl
@[simp] theorem fld_89_3 : fld Tryd.prog 89 3 = some (3, 82) := by kernel_rfl
@[simp] theorem fld_89_4 : fld Tryd.prog 89 4 = some (4, 5) := by kernel_rfl
@[simp] theorem fld_89_5 : fld Tryd.prog 89 5 = some (5, 5) := by kernel_rfl
@[simp] theorem fld_89_6 : fld Tryd.prog 89 6 = some (6, 83) := by kernel_rfl
@[simp] theorem fld_89_7 : fld Tryd.prog 89 7 = some (7, 84) := by kernel_rfl
@[simp] theorem fld_89_8 : fld Tryd.prog 89 8 = some (8, 85) := by kernel_rfl
@[simp] theorem fld_89_9 : fld Tryd.prog 89 9 = some (9, 86) := by kernel_rfl
@[simp] theorem fld_89_10 : fld Tryd.prog 89 10 = some (10, 87) := by kernel_rfl
@[simp] theorem callable_3 : callable Tryd.prog 3 = true := by kernel_rfl
@[simp] theorem callable_4 : callable Tryd.prog 4 = true := by kernel_rfl
@[simp] theorem callable_5 : callable Tryd.prog 5 = true := by kernel_rfl
@[simp] theorem callable_6 : callable Tryd.prog 6 = true := by kernel_rfl
@[simp] theorem callable_7 : callable Tryd.prog 7 = true := by kernel_rfl
@[simp] theorem callable_8 : callable Tryd.prog 8 = true := by kernel_rfl
@[simp] theorem callable_9 : callable Tryd.prog 9 = true := by kernel_rfl
@[simp] theorem callable_10 : callable Tryd.prog 10 = true := by kernel_rfl
@[simp] theorem callable_11 : callable Tryd.prog 11 = true := by kernel_rfl
@[simp] theorem callable_12 : callable Tryd.prog 12 = true := by kernel_rfl
@[simp] theorem callable_13 : callable Tryd.prog 13 = true := by kernel_rfl
@[simp] theorem callable_14 : callable Tryd.prog 14 = true := by kernel_rfl
@[simp] theorem callable_15 : callable Tryd.prog 15 = true := by kernel_rfl
@[simp] theorem callable_16 : callable Tryd.prog 16 = true := by kernel_rfl
@[simp] theorem callable_17 : callable Tryd.prog 17 = true := by kernel_rfl
@[simp] theorem callable_18 : callable Tryd.prog 18 = true := by kernel_rfl
@[simp] theorem callable_19 : callable Tryd.prog 19 = true := by kernel_rfl
@[simp] theorem callable_20 : callable Tryd.prog 20 = true := by kernel_rfl
@[simp] theorem callable_21 : callable Tryd.prog 21 = true := by kernel_rfl
@[simp] theorem callable_22 : callable Tryd.prog 22 = true := by kernel_rfl
@[simp] theorem callable_23 : callable Tryd.prog 23 = true := by kernel_rfl
@[simp] theorem callable_24 : callable Tryd.prog 24 = true := by kernel_rfl
@[simp] theorem callable_25 : callable Tryd.prog 25 = true := by kernel_rfl
@[simp] theorem callable_26 : callable Tryd.prog 26 = true := by kernel_rfl
@[simp] theorem callable_27 : callable Tryd.prog 27 = true := by kernel_rfl
@[simp] theorem callable_28 : callable Tryd.prog 28 = true := by kernel_rfl
@[simp] theorem callable_29 : callable Tryd.prog 29 = true := by kernel_rfl
@[simp] theorem callable_30 : callable Tryd.prog 30 = true := by kernel_rfl
@[simp] theorem callable_31 : callable Tryd.prog 31 = true := by kernel_rfl
@[simp] theorem callable_32 : callable Tryd.prog 32 = true := by kernel_rfl
@[simp] theorem callable_33 : callable Tryd.prog 33 = true := by kernel_rfl
@[simp] theorem callable_34 : callable Tryd.prog 34 = true := by kernel_rfl
@[simp] theorem callable_35 : callable Tryd.prog 35 = true := by kernel_rfl
@[simp] theorem callable_36 : callable Tryd.prog 36 = true := by kernel_rfl
@[simp] theorem callable_37 : callable Tryd.prog 37 = true := by kernel_rfl
@[simp] theorem callable_38 : callable Tryd.prog 38 = true := by kernel_rfl
@[simp] theorem callable_39 : callable Tryd.prog 39 = true := by kernel_rfl
@[simp] theorem callable_40 : callable Tryd.prog 40 = true := by kernel_rfl
@[simp] theorem callable_41 : callable Tryd.prog 41 = true := by kernel_rfl
@[simp] theorem callable_43 : callable Tryd.prog 43 = true := by kernel_rfl
@[simp] theorem callable_44 : callable Tryd.prog 44 = true := by kernel_rfl
@[simp] theorem callable_45 : callable Tryd.prog 45 = true := by kernel_rfl
@[simp] theorem callable_62 : callable Tryd.prog 62 = true := by kernel_rfl
@[simp] theorem callable_63 : callable Tryd.prog 63 = true := by kernel_rfl
@[simp] theorem callable_64 : callable Tryd.prog 64 = true := by kernel_rfl
end Go.Proofs.YtnnhjaihjfdhbaaDoor
