/- Facts on the types and functions of this translation, by a program; each closed by the kernel. No condition. -/
import Derived.Test.YtcjdagpadnahfaaGreatDoorProg
import Derived.Test.YtcjdagpadnahfaaGreatDoorGI
import Derived.KernelRfl
set_option linter.unusedVariables false
set_option maxRecDepth 100000
namespace Go.Proofs.YtcjdagpadnahfaaGreatDoor
open Go Go.AW
@[simp] theorem tk_0 : tk Tryz.prog 0 = .other := by kernel_rfl
@[simp] theorem tsz_0 : tsz Tryz.prog 0 = 1 := by kernel_rfl
@[simp] theorem tby_0 : tby Tryz.prog 0 = 0 := by kernel_rfl
@[simp] theorem az_0 : azero Tryz.prog 0 = AV.tup [] := by kernel_rfl
@[simp] theorem tk_1 : tk Tryz.prog 1 = .fn := by kernel_rfl
@[simp] theorem tsz_1 : tsz Tryz.prog 1 = 1 := by kernel_rfl
@[simp] theorem tby_1 : tby Tryz.prog 1 = 8 := by kernel_rfl
@[simp] theorem az_1 : azero Tryz.prog 1 = AV.c Value.nilFunc := by kernel_rfl
@[simp] theorem tk_2 : tk Tryz.prog 2 = .int .i64 := by kernel_rfl
@[simp] theorem tsz_2 : tsz Tryz.prog 2 = 1 := by kernel_rfl
@[simp] theorem tby_2 : tby Tryz.prog 2 = 8 := by kernel_rfl
@[simp] theorem az_2 : azero Tryz.prog 2 = AV.c (Value.int .i64 0) := by kernel_rfl
@[simp] theorem tk_3 : tk Tryz.prog 3 = .int .i64 := by kernel_rfl
@[simp] theorem tsz_3 : tsz Tryz.prog 3 = 1 := by kernel_rfl
@[simp] theorem tby_3 : tby Tryz.prog 3 = 8 := by kernel_rfl
@[simp] theorem az_3 : azero Tryz.prog 3 = AV.c (Value.int .i64 0) := by kernel_rfl
@[simp] theorem tk_4 : tk Tryz.prog 4 = .bool := by kernel_rfl
@[simp] theorem tsz_4 : tsz Tryz.prog 4 = 1 := by kernel_rfl
@[simp] theorem tby_4 : tby Tryz.prog 4 = 1 := by kernel_rfl
@[simp] theorem az_4 : azero Tryz.prog 4 = AV.c (Value.bool false) := by kernel_rfl
@[simp] theorem tk_5 : tk Tryz.prog 5 = .int .u8 := by kernel_rfl
@[simp] theorem tsz_5 : tsz Tryz.prog 5 = 1 := by kernel_rfl
@[simp] theorem tby_5 : tby Tryz.prog 5 = 1 := by kernel_rfl
@[simp] theorem az_5 : azero Tryz.prog 5 = AV.c (Value.int .u8 0) := by kernel_rfl
@[simp] theorem tk_6 : tk Tryz.prog 6 = .int .u8 := by kernel_rfl
@[simp] theorem tsz_6 : tsz Tryz.prog 6 = 1 := by kernel_rfl
@[simp] theorem tby_6 : tby Tryz.prog 6 = 1 := by kernel_rfl
@[simp] theorem az_6 : azero Tryz.prog 6 = AV.c (Value.int .u8 0) := by kernel_rfl
@[simp] theorem tk_7 : tk Tryz.prog 7 = .strct := by kernel_rfl
@[simp] theorem tsz_7 : tsz Tryz.prog 7 = 4 := by kernel_rfl
@[simp] theorem tby_7 : tby Tryz.prog 7 = 24 := by kernel_rfl
@[simp] theorem az_7 : azero Tryz.prog 7 = AV.agg [AV.c (Value.int .i64 0), AV.c (Value.int .i64 0), AV.c (Value.bool false), AV.c (Value.int .u8 0)] := by kernel_rfl
@[simp] theorem plc_7 : plc Tryz.prog 7 = some [(0, 1), (1, 1), (2, 1), (3, 1)] := by kernel_rfl
@[simp] theorem tk_8 : tk Tryz.prog 8 = .strct := by kernel_rfl
@[simp] theorem tsz_8 : tsz Tryz.prog 8 = 4 := by kernel_rfl
@[simp] theorem tby_8 : tby Tryz.prog 8 = 24 := by kernel_rfl
@[simp] theorem az_8 : azero Tryz.prog 8 = AV.agg [AV.c (Value.int .i64 0), AV.c (Value.int .i64 0), AV.c (Value.bool false), AV.c (Value.int .u8 0)] := by kernel_rfl
@[simp] theorem plc_8 : plc Tryz.prog 8 = some [(0, 1), (1, 1), (2, 1), (3, 1)] := by kernel_rfl
@[simp] theorem tk_9 : tk Tryz.prog 9 = .str := by kernel_rfl
@[simp] theorem tsz_9 : tsz Tryz.prog 9 = 1 := by kernel_rfl
@[simp] theorem tby_9 : tby Tryz.prog 9 = 16 := by kernel_rfl
@[simp] theorem az_9 : azero Tryz.prog 9 = AV.c (Value.string (⟨#[]⟩ : ByteArray)) := by kernel_rfl
@[simp] theorem tk_10 : tk Tryz.prog 10 = .str := by kernel_rfl
@[simp] theorem tsz_10 : tsz Tryz.prog 10 = 1 := by kernel_rfl
@[simp] theorem tby_10 : tby Tryz.prog 10 = 16 := by kernel_rfl
@[simp] theorem az_10 : azero Tryz.prog 10 = AV.c (Value.string (⟨#[]⟩ : ByteArray)) := by kernel_rfl
@[simp] theorem tk_11 : tk Tryz.prog 11 = .str := by kernel_rfl
@[simp] theorem tsz_11 : tsz Tryz.prog 11 = 1 := by kernel_rfl
@[simp] theorem tby_11 : tby Tryz.prog 11 = 16 := by kernel_rfl
@[simp] theorem az_11 : azero Tryz.prog 11 = AV.c (Value.string (⟨#[]⟩ : ByteArray)) := by kernel_rfl
@[simp] theorem tk_12 : tk Tryz.prog 12 = .int .u64 := by kernel_rfl
@[simp] theorem tsz_12 : tsz Tryz.prog 12 = 1 := by kernel_rfl
@[simp] theorem tby_12 : tby Tryz.prog 12 = 8 := by kernel_rfl
@[simp] theorem az_12 : azero Tryz.prog 12 = AV.c (Value.int .u64 0) := by kernel_rfl
@[simp] theorem tk_13 : tk Tryz.prog 13 = .strct := by kernel_rfl
@[simp] theorem tsz_13 : tsz Tryz.prog 13 = 2 := by kernel_rfl
@[simp] theorem tby_13 : tby Tryz.prog 13 = 24 := by kernel_rfl
@[simp] theorem az_13 : azero Tryz.prog 13 = AV.agg [AV.c (Value.string (⟨#[]⟩ : ByteArray)), AV.c (Value.int .u64 0)] := by kernel_rfl
@[simp] theorem plc_13 : plc Tryz.prog 13 = some [(0, 1), (1, 1)] := by kernel_rfl
@[simp] theorem tk_14 : tk Tryz.prog 14 = .strct := by kernel_rfl
@[simp] theorem tsz_14 : tsz Tryz.prog 14 = 2 := by kernel_rfl
@[simp] theorem tby_14 : tby Tryz.prog 14 = 24 := by kernel_rfl
@[simp] theorem az_14 : azero Tryz.prog 14 = AV.agg [AV.c (Value.string (⟨#[]⟩ : ByteArray)), AV.c (Value.int .u64 0)] := by kernel_rfl
@[simp] theorem plc_14 : plc Tryz.prog 14 = some [(0, 1), (1, 1)] := by kernel_rfl
@[simp] theorem tk_15 : tk Tryz.prog 15 = .ptr 252 := by kernel_rfl
@[simp] theorem tsz_15 : tsz Tryz.prog 15 = 1 := by kernel_rfl
@[simp] theorem tby_15 : tby Tryz.prog 15 = 8 := by kernel_rfl
@[simp] theorem az_15 : azero Tryz.prog 15 = AV.c (Value.pointer none) := by kernel_rfl
@[simp] theorem tk_16 : tk Tryz.prog 16 = .ptr 255 := by kernel_rfl
@[simp] theorem tsz_16 : tsz Tryz.prog 16 = 1 := by kernel_rfl
@[simp] theorem tby_16 : tby Tryz.prog 16 = 8 := by kernel_rfl
@[simp] theorem az_16 : azero Tryz.prog 16 = AV.c (Value.pointer none) := by kernel_rfl
@[simp] theorem tk_17 : tk Tryz.prog 17 = .ptr 262 := by kernel_rfl
@[simp] theorem tsz_17 : tsz Tryz.prog 17 = 1 := by kernel_rfl
@[simp] theorem tby_17 : tby Tryz.prog 17 = 8 := by kernel_rfl
@[simp] theorem az_17 : azero Tryz.prog 17 = AV.c (Value.pointer none) := by kernel_rfl
@[simp] theorem tk_18 : tk Tryz.prog 18 = .strct := by kernel_rfl
@[simp] theorem tsz_18 : tsz Tryz.prog 18 = 1 := by kernel_rfl
@[simp] theorem tby_18 : tby Tryz.prog 18 = 8 := by kernel_rfl
@[simp] theorem az_18 : azero Tryz.prog 18 = AV.agg [AV.c (Value.pointer none)] := by kernel_rfl
@[simp] theorem plc_18 : plc Tryz.prog 18 = some [(0, 1)] := by kernel_rfl
@[simp] theorem tk_19 : tk Tryz.prog 19 = .strct := by kernel_rfl
@[simp] theorem tsz_19 : tsz Tryz.prog 19 = 1 := by kernel_rfl
@[simp] theorem tby_19 : tby Tryz.prog 19 = 8 := by kernel_rfl
@[simp] theorem az_19 : azero Tryz.prog 19 = AV.agg [AV.c (Value.pointer none)] := by kernel_rfl
@[simp] theorem plc_19 : plc Tryz.prog 19 = some [(0, 1)] := by kernel_rfl
@[simp] theorem tk_20 : tk Tryz.prog 20 = .ifc := by kernel_rfl
@[simp] theorem tsz_20 : tsz Tryz.prog 20 = 1 := by kernel_rfl
@[simp] theorem tby_20 : tby Tryz.prog 20 = 16 := by kernel_rfl
@[simp] theorem az_20 : azero Tryz.prog 20 = AV.c Value.nilIface := by kernel_rfl
@[simp] theorem tk_21 : tk Tryz.prog 21 = .int .i32 := by kernel_rfl
@[simp] theorem tsz_21 : tsz Tryz.prog 21 = 1 := by kernel_rfl
@[simp] theorem tby_21 : tby Tryz.prog 21 = 4 := by kernel_rfl
@[simp] theorem az_21 : azero Tryz.prog 21 = AV.c (Value.int .i32 0) := by kernel_rfl
@[simp] theorem tk_22 : tk Tryz.prog 22 = .slc 46 := by kernel_rfl
@[simp] theorem tsz_22 : tsz Tryz.prog 22 = 1 := by kernel_rfl
@[simp] theorem tby_22 : tby Tryz.prog 22 = 24 := by kernel_rfl
@[simp] theorem az_22 : azero Tryz.prog 22 = AV.nl := by kernel_rfl
@[simp] theorem tk_23 : tk Tryz.prog 23 = .slc 5 := by kernel_rfl
@[simp] theorem tsz_23 : tsz Tryz.prog 23 = 1 := by kernel_rfl
@[simp] theorem tby_23 : tby Tryz.prog 23 = 24 := by kernel_rfl
@[simp] theorem az_23 : azero Tryz.prog 23 = AV.nl := by kernel_rfl
@[simp] theorem tk_24 : tk Tryz.prog 24 = .fn := by kernel_rfl
@[simp] theorem tsz_24 : tsz Tryz.prog 24 = 1 := by kernel_rfl
@[simp] theorem tby_24 : tby Tryz.prog 24 = 8 := by kernel_rfl
@[simp] theorem az_24 : azero Tryz.prog 24 = AV.c Value.nilFunc := by kernel_rfl
@[simp] theorem tk_25 : tk Tryz.prog 25 = .fn := by kernel_rfl
@[simp] theorem tsz_25 : tsz Tryz.prog 25 = 1 := by kernel_rfl
@[simp] theorem tby_25 : tby Tryz.prog 25 = 8 := by kernel_rfl
@[simp] theorem az_25 : azero Tryz.prog 25 = AV.c Value.nilFunc := by kernel_rfl
@[simp] theorem tk_26 : tk Tryz.prog 26 = .slc 44 := by kernel_rfl
@[simp] theorem tsz_26 : tsz Tryz.prog 26 = 1 := by kernel_rfl
@[simp] theorem tby_26 : tby Tryz.prog 26 = 24 := by kernel_rfl
@[simp] theorem az_26 : azero Tryz.prog 26 = AV.nl := by kernel_rfl
@[simp] theorem tk_27 : tk Tryz.prog 27 = .slc 3 := by kernel_rfl
@[simp] theorem tsz_27 : tsz Tryz.prog 27 = 1 := by kernel_rfl
@[simp] theorem tby_27 : tby Tryz.prog 27 = 24 := by kernel_rfl
@[simp] theorem az_27 : azero Tryz.prog 27 = AV.nl := by kernel_rfl
@[simp] theorem tk_28 : tk Tryz.prog 28 = .other := by kernel_rfl
@[simp] theorem tsz_28 : tsz Tryz.prog 28 = 1 := by kernel_rfl
@[simp] theorem tby_28 : tby Tryz.prog 28 = 0 := by kernel_rfl
@[simp] theorem az_28 : azero Tryz.prog 28 = AV.junk := by kernel_rfl
@[simp] theorem tk_29 : tk Tryz.prog 29 = .fn := by kernel_rfl
@[simp] theorem tsz_29 : tsz Tryz.prog 29 = 1 := by kernel_rfl
@[simp] theorem tby_29 : tby Tryz.prog 29 = 8 := by kernel_rfl
@[simp] theorem az_29 : azero Tryz.prog 29 = AV.c Value.nilFunc := by kernel_rfl
@[simp] theorem tk_30 : tk Tryz.prog 30 = .int .i64 := by kernel_rfl
@[simp] theorem tsz_30 : tsz Tryz.prog 30 = 1 := by kernel_rfl
@[simp] theorem tby_30 : tby Tryz.prog 30 = 8 := by kernel_rfl
@[simp] theorem az_30 : azero Tryz.prog 30 = AV.c (Value.int .i64 0) := by kernel_rfl
@[simp] theorem tk_31 : tk Tryz.prog 31 = .other := by kernel_rfl
@[simp] theorem tsz_31 : tsz Tryz.prog 31 = 1 := by kernel_rfl
@[simp] theorem tby_31 : tby Tryz.prog 31 = 0 := by kernel_rfl
@[simp] theorem az_31 : azero Tryz.prog 31 = AV.junk := by kernel_rfl
@[simp] theorem tk_32 : tk Tryz.prog 32 = .fn := by kernel_rfl
@[simp] theorem tsz_32 : tsz Tryz.prog 32 = 1 := by kernel_rfl
@[simp] theorem tby_32 : tby Tryz.prog 32 = 8 := by kernel_rfl
@[simp] theorem az_32 : azero Tryz.prog 32 = AV.c Value.nilFunc := by kernel_rfl
@[simp] theorem tk_33 : tk Tryz.prog 33 = .other := by kernel_rfl
@[simp] theorem tsz_33 : tsz Tryz.prog 33 = 1 := by kernel_rfl
@[simp] theorem tby_33 : tby Tryz.prog 33 = 0 := by kernel_rfl
@[simp] theorem az_33 : azero Tryz.prog 33 = AV.junk := by kernel_rfl
@[simp] theorem tk_34 : tk Tryz.prog 34 = .fn := by kernel_rfl
@[simp] theorem tsz_34 : tsz Tryz.prog 34 = 1 := by kernel_rfl
@[simp] theorem tby_34 : tby Tryz.prog 34 = 8 := by kernel_rfl
@[simp] theorem az_34 : azero Tryz.prog 34 = AV.c Value.nilFunc := by kernel_rfl
@[simp] theorem tk_35 : tk Tryz.prog 35 = .other := by kernel_rfl
@[simp] theorem tsz_35 : tsz Tryz.prog 35 = 1 := by kernel_rfl
@[simp] theorem tby_35 : tby Tryz.prog 35 = 0 := by kernel_rfl
@[simp] theorem az_35 : azero Tryz.prog 35 = AV.junk := by kernel_rfl
@[simp] theorem tk_36 : tk Tryz.prog 36 = .fn := by kernel_rfl
@[simp] theorem tsz_36 : tsz Tryz.prog 36 = 1 := by kernel_rfl
@[simp] theorem tby_36 : tby Tryz.prog 36 = 8 := by kernel_rfl
@[simp] theorem az_36 : azero Tryz.prog 36 = AV.c Value.nilFunc := by kernel_rfl
@[simp] theorem tk_37 : tk Tryz.prog 37 = .fn := by kernel_rfl
@[simp] theorem tsz_37 : tsz Tryz.prog 37 = 1 := by kernel_rfl
@[simp] theorem tby_37 : tby Tryz.prog 37 = 8 := by kernel_rfl
@[simp] theorem az_37 : azero Tryz.prog 37 = AV.c Value.nilFunc := by kernel_rfl
@[simp] theorem tk_38 : tk Tryz.prog 38 = .fn := by kernel_rfl
@[simp] theorem tsz_38 : tsz Tryz.prog 38 = 1 := by kernel_rfl
@[simp] theorem tby_38 : tby Tryz.prog 38 = 8 := by kernel_rfl
@[simp] theorem az_38 : azero Tryz.prog 38 = AV.c Value.nilFunc := by kernel_rfl
@[simp] theorem tk_39 : tk Tryz.prog 39 = .fn := by kernel_rfl
@[simp] theorem tsz_39 : tsz Tryz.prog 39 = 1 := by kernel_rfl
@[simp] theorem tby_39 : tby Tryz.prog 39 = 8 := by kernel_rfl
@[simp] theorem az_39 : azero Tryz.prog 39 = AV.c Value.nilFunc := by kernel_rfl
@[simp] theorem tk_40 : tk Tryz.prog 40 = .slc 9 := by kernel_rfl
@[simp] theorem tsz_40 : tsz Tryz.prog 40 = 1 := by kernel_rfl
@[simp] theorem tby_40 : tby Tryz.prog 40 = 24 := by kernel_rfl
@[simp] theorem az_40 : azero Tryz.prog 40 = AV.nl := by kernel_rfl
@[simp] theorem tk_41 : tk Tryz.prog 41 = .fn := by kernel_rfl
@[simp] theorem tsz_41 : tsz Tryz.prog 41 = 1 := by kernel_rfl
@[simp] theorem tby_41 : tby Tryz.prog 41 = 8 := by kernel_rfl
@[simp] theorem az_41 : azero Tryz.prog 41 = AV.c Value.nilFunc := by kernel_rfl
@[simp] theorem tk_42 : tk Tryz.prog 42 = .fn := by kernel_rfl
@[simp] theorem tsz_42 : tsz Tryz.prog 42 = 1 := by kernel_rfl
@[simp] theorem tby_42 : tby Tryz.prog 42 = 8 := by kernel_rfl
@[simp] theorem az_42 : azero Tryz.prog 42 = AV.c Value.nilFunc := by kernel_rfl
@[simp] theorem tk_43 : tk Tryz.prog 43 = .strct := by kernel_rfl
@[simp] theorem tsz_43 : tsz Tryz.prog 43 = 2 := by kernel_rfl
@[simp] theorem tby_43 : tby Tryz.prog 43 = 24 := by kernel_rfl
@[simp] theorem az_43 : azero Tryz.prog 43 = AV.agg [AV.c (Value.string (⟨#[]⟩ : ByteArray)), AV.c (Value.int .i64 0)] := by kernel_rfl
@[simp] theorem plc_43 : plc Tryz.prog 43 = some [(0, 1), (1, 1)] := by kernel_rfl
@[simp] theorem tk_44 : tk Tryz.prog 44 = .strct := by kernel_rfl
@[simp] theorem tsz_44 : tsz Tryz.prog 44 = 2 := by kernel_rfl
@[simp] theorem tby_44 : tby Tryz.prog 44 = 24 := by kernel_rfl
@[simp] theorem az_44 : azero Tryz.prog 44 = AV.agg [AV.c (Value.string (⟨#[]⟩ : ByteArray)), AV.c (Value.int .i64 0)] := by kernel_rfl
@[simp] theorem plc_44 : plc Tryz.prog 44 = some [(0, 1), (1, 1)] := by kernel_rfl
@[simp] theorem tk_45 : tk Tryz.prog 45 = .strct := by kernel_rfl
@[simp] theorem tsz_45 : tsz Tryz.prog 45 = 6 := by kernel_rfl
@[simp] theorem tby_45 : tby Tryz.prog 45 = 72 := by kernel_rfl
@[simp] theorem az_45 : azero Tryz.prog 45 = AV.agg [AV.c (Value.string (⟨#[]⟩ : ByteArray)), AV.c (Value.int .i64 0), AV.c (Value.int .i64 0), AV.c (Value.int .i64 0), AV.c (Value.int .i64 0), AV.nl] := by kernel_rfl
@[simp] theorem plc_45 : plc Tryz.prog 45 = some [(0, 1), (1, 1), (2, 1), (3, 1), (4, 1), (5, 1)] := by kernel_rfl
@[simp] theorem tk_46 : tk Tryz.prog 46 = .strct := by kernel_rfl
@[simp] theorem tsz_46 : tsz Tryz.prog 46 = 6 := by kernel_rfl
@[simp] theorem tby_46 : tby Tryz.prog 46 = 72 := by kernel_rfl
@[simp] theorem az_46 : azero Tryz.prog 46 = AV.agg [AV.c (Value.string (⟨#[]⟩ : ByteArray)), AV.c (Value.int .i64 0), AV.c (Value.int .i64 0), AV.c (Value.int .i64 0), AV.c (Value.int .i64 0), AV.nl] := by kernel_rfl
@[simp] theorem plc_46 : plc Tryz.prog 46 = some [(0, 1), (1, 1), (2, 1), (3, 1), (4, 1), (5, 1)] := by kernel_rfl
@[simp] theorem tk_47 : tk Tryz.prog 47 = .fn := by kernel_rfl
@[simp] theorem tsz_47 : tsz Tryz.prog 47 = 1 := by kernel_rfl
@[simp] theorem tby_47 : tby Tryz.prog 47 = 8 := by kernel_rfl
@[simp] theorem az_47 : azero Tryz.prog 47 = AV.c Value.nilFunc := by kernel_rfl
@[simp] theorem tk_48 : tk Tryz.prog 48 = .fn := by kernel_rfl
@[simp] theorem tsz_48 : tsz Tryz.prog 48 = 1 := by kernel_rfl
@[simp] theorem tby_48 : tby Tryz.prog 48 = 8 := by kernel_rfl
@[simp] theorem az_48 : azero Tryz.prog 48 = AV.c Value.nilFunc := by kernel_rfl
@[simp] theorem tk_49 : tk Tryz.prog 49 = .fn := by kernel_rfl
@[simp] theorem tsz_49 : tsz Tryz.prog 49 = 1 := by kernel_rfl
@[simp] theorem tby_49 : tby Tryz.prog 49 = 8 := by kernel_rfl
@[simp] theorem az_49 : azero Tryz.prog 49 = AV.c Value.nilFunc := by kernel_rfl
@[simp] theorem tk_50 : tk Tryz.prog 50 = .fn := by kernel_rfl
@[simp] theorem tsz_50 : tsz Tryz.prog 50 = 1 := by kernel_rfl
@[simp] theorem tby_50 : tby Tryz.prog 50 = 8 := by kernel_rfl
@[simp] theorem az_50 : azero Tryz.prog 50 = AV.c Value.nilFunc := by kernel_rfl
@[simp] theorem tk_51 : tk Tryz.prog 51 = .other := by kernel_rfl
@[simp] theorem tsz_51 : tsz Tryz.prog 51 = 1 := by kernel_rfl
@[simp] theorem tby_51 : tby Tryz.prog 51 = 0 := by kernel_rfl
@[simp] theorem az_51 : azero Tryz.prog 51 = AV.junk := by kernel_rfl
@[simp] theorem tk_52 : tk Tryz.prog 52 = .fn := by kernel_rfl
@[simp] theorem tsz_52 : tsz Tryz.prog 52 = 1 := by kernel_rfl
@[simp] theorem tby_52 : tby Tryz.prog 52 = 8 := by kernel_rfl
@[simp] theorem az_52 : azero Tryz.prog 52 = AV.c Value.nilFunc := by kernel_rfl
@[simp] theorem tk_53 : tk Tryz.prog 53 = .strct := by kernel_rfl
@[simp] theorem tsz_53 : tsz Tryz.prog 53 = 4 := by kernel_rfl
@[simp] theorem tby_53 : tby Tryz.prog 53 = 80 := by kernel_rfl
@[simp] theorem az_53 : azero Tryz.prog 53 = AV.agg [AV.c (Value.bool false), AV.nl, AV.nl, AV.nl] := by kernel_rfl
@[simp] theorem plc_53 : plc Tryz.prog 53 = some [(0, 1), (1, 1), (2, 1), (3, 1)] := by kernel_rfl
@[simp] theorem tk_54 : tk Tryz.prog 54 = .strct := by kernel_rfl
@[simp] theorem tsz_54 : tsz Tryz.prog 54 = 4 := by kernel_rfl
@[simp] theorem tby_54 : tby Tryz.prog 54 = 80 := by kernel_rfl
@[simp] theorem az_54 : azero Tryz.prog 54 = AV.agg [AV.c (Value.bool false), AV.nl, AV.nl, AV.nl] := by kernel_rfl
@[simp] theorem plc_54 : plc Tryz.prog 54 = some [(0, 1), (1, 1), (2, 1), (3, 1)] := by kernel_rfl
@[simp] theorem tk_55 : tk Tryz.prog 55 = .other := by kernel_rfl
@[simp] theorem tsz_55 : tsz Tryz.prog 55 = 1 := by kernel_rfl
@[simp] theorem tby_55 : tby Tryz.prog 55 = 0 := by kernel_rfl
@[simp] theorem az_55 : azero Tryz.prog 55 = AV.junk := by kernel_rfl
@[simp] theorem tk_56 : tk Tryz.prog 56 = .fn := by kernel_rfl
@[simp] theorem tsz_56 : tsz Tryz.prog 56 = 1 := by kernel_rfl
@[simp] theorem tby_56 : tby Tryz.prog 56 = 8 := by kernel_rfl
@[simp] theorem az_56 : azero Tryz.prog 56 = AV.c Value.nilFunc := by kernel_rfl
@[simp] theorem tk_57 : tk Tryz.prog 57 = .fn := by kernel_rfl
@[simp] theorem tsz_57 : tsz Tryz.prog 57 = 1 := by kernel_rfl
@[simp] theorem tby_57 : tby Tryz.prog 57 = 8 := by kernel_rfl
@[simp] theorem az_57 : azero Tryz.prog 57 = AV.c Value.nilFunc := by kernel_rfl
@[simp] theorem tk_58 : tk Tryz.prog 58 = .fn := by kernel_rfl
@[simp] theorem tsz_58 : tsz Tryz.prog 58 = 1 := by kernel_rfl
@[simp] theorem tby_58 : tby Tryz.prog 58 = 8 := by kernel_rfl
@[simp] theorem az_58 : azero Tryz.prog 58 = AV.c Value.nilFunc := by kernel_rfl
@[simp] theorem tk_59 : tk Tryz.prog 59 = .fn := by kernel_rfl
@[simp] theorem tsz_59 : tsz Tryz.prog 59 = 1 := by kernel_rfl
@[simp] theorem tby_59 : tby Tryz.prog 59 = 8 := by kernel_rfl
@[simp] theorem az_59 : azero Tryz.prog 59 = AV.c Value.nilFunc := by kernel_rfl
@[simp] theorem tk_60 : tk Tryz.prog 60 = .strct := by kernel_rfl
@[simp] theorem tsz_60 : tsz Tryz.prog 60 = 4 := by kernel_rfl
@[simp] theorem tby_60 : tby Tryz.prog 60 = 80 := by kernel_rfl
@[simp] theorem az_60 : azero Tryz.prog 60 = AV.agg [AV.c (Value.bool false), AV.nl, AV.nl, AV.nl] := by kernel_rfl
@[simp] theorem plc_60 : plc Tryz.prog 60 = some [(0, 1), (1, 1), (2, 1), (3, 1)] := by kernel_rfl
@[simp] theorem tk_61 : tk Tryz.prog 61 = .other := by kernel_rfl
@[simp] theorem tsz_61 : tsz Tryz.prog 61 = 1 := by kernel_rfl
@[simp] theorem tby_61 : tby Tryz.prog 61 = 0 := by kernel_rfl
@[simp] theorem az_61 : azero Tryz.prog 61 = AV.junk := by kernel_rfl
@[simp] theorem tk_62 : tk Tryz.prog 62 = .fn := by kernel_rfl
@[simp] theorem tsz_62 : tsz Tryz.prog 62 = 1 := by kernel_rfl
@[simp] theorem tby_62 : tby Tryz.prog 62 = 8 := by kernel_rfl
@[simp] theorem az_62 : azero Tryz.prog 62 = AV.c Value.nilFunc := by kernel_rfl
@[simp] theorem tk_63 : tk Tryz.prog 63 = .fn := by kernel_rfl
@[simp] theorem tsz_63 : tsz Tryz.prog 63 = 1 := by kernel_rfl
@[simp] theorem tby_63 : tby Tryz.prog 63 = 8 := by kernel_rfl
@[simp] theorem az_63 : azero Tryz.prog 63 = AV.c Value.nilFunc := by kernel_rfl
@[simp] theorem tk_64 : tk Tryz.prog 64 = .fn := by kernel_rfl
@[simp] theorem tsz_64 : tsz Tryz.prog 64 = 1 := by kernel_rfl
@[simp] theorem tby_64 : tby Tryz.prog 64 = 8 := by kernel_rfl
@[simp] theorem az_64 : azero Tryz.prog 64 = AV.c Value.nilFunc := by kernel_rfl
@[simp] theorem tk_65 : tk Tryz.prog 65 = .other := by kernel_rfl
@[simp] theorem tsz_65 : tsz Tryz.prog 65 = 1 := by kernel_rfl
@[simp] theorem tby_65 : tby Tryz.prog 65 = 0 := by kernel_rfl
@[simp] theorem az_65 : azero Tryz.prog 65 = AV.junk := by kernel_rfl
@[simp] theorem tk_66 : tk Tryz.prog 66 = .fn := by kernel_rfl
@[simp] theorem tsz_66 : tsz Tryz.prog 66 = 1 := by kernel_rfl
@[simp] theorem tby_66 : tby Tryz.prog 66 = 8 := by kernel_rfl
@[simp] theorem az_66 : azero Tryz.prog 66 = AV.c Value.nilFunc := by kernel_rfl
@[simp] theorem tk_67 : tk Tryz.prog 67 = .strct := by kernel_rfl
@[simp] theorem tsz_67 : tsz Tryz.prog 67 = 4 := by kernel_rfl
@[simp] theorem tby_67 : tby Tryz.prog 67 = 40 := by kernel_rfl
@[simp] theorem az_67 : azero Tryz.prog 67 = AV.agg [AV.c (Value.string (⟨#[]⟩ : ByteArray)), AV.c (Value.int .i64 0), AV.c (Value.int .i64 0), AV.c (Value.int .i64 0)] := by kernel_rfl
@[simp] theorem plc_67 : plc Tryz.prog 67 = some [(0, 1), (1, 1), (2, 1), (3, 1)] := by kernel_rfl
@[simp] theorem tk_68 : tk Tryz.prog 68 = .strct := by kernel_rfl
@[simp] theorem tsz_68 : tsz Tryz.prog 68 = 4 := by kernel_rfl
@[simp] theorem tby_68 : tby Tryz.prog 68 = 40 := by kernel_rfl
@[simp] theorem az_68 : azero Tryz.prog 68 = AV.agg [AV.c (Value.string (⟨#[]⟩ : ByteArray)), AV.c (Value.int .i64 0), AV.c (Value.int .i64 0), AV.c (Value.int .i64 0)] := by kernel_rfl
@[simp] theorem plc_68 : plc Tryz.prog 68 = some [(0, 1), (1, 1), (2, 1), (3, 1)] := by kernel_rfl
@[simp] theorem tk_69 : tk Tryz.prog 69 = .slc 68 := by kernel_rfl
@[simp] theorem tsz_69 : tsz Tryz.prog 69 = 1 := by kernel_rfl
@[simp] theorem tby_69 : tby Tryz.prog 69 = 24 := by kernel_rfl
@[simp] theorem az_69 : azero Tryz.prog 69 = AV.nl := by kernel_rfl
@[simp] theorem tk_70 : tk Tryz.prog 70 = .strct := by kernel_rfl
@[simp] theorem tsz_70 : tsz Tryz.prog 70 = 2 := by kernel_rfl
@[simp] theorem tby_70 : tby Tryz.prog 70 = 48 := by kernel_rfl
@[simp] theorem az_70 : azero Tryz.prog 70 = AV.agg [AV.nl, AV.nl] := by kernel_rfl
@[simp] theorem plc_70 : plc Tryz.prog 70 = some [(0, 1), (1, 1)] := by kernel_rfl
@[simp] theorem tk_71 : tk Tryz.prog 71 = .strct := by kernel_rfl
@[simp] theorem tsz_71 : tsz Tryz.prog 71 = 2 := by kernel_rfl
@[simp] theorem tby_71 : tby Tryz.prog 71 = 48 := by kernel_rfl
@[simp] theorem az_71 : azero Tryz.prog 71 = AV.agg [AV.nl, AV.nl] := by kernel_rfl
@[simp] theorem plc_71 : plc Tryz.prog 71 = some [(0, 1), (1, 1)] := by kernel_rfl
@[simp] theorem tk_72 : tk Tryz.prog 72 = .fn := by kernel_rfl
@[simp] theorem tsz_72 : tsz Tryz.prog 72 = 1 := by kernel_rfl
@[simp] theorem tby_72 : tby Tryz.prog 72 = 8 := by kernel_rfl
@[simp] theorem az_72 : azero Tryz.prog 72 = AV.c Value.nilFunc := by kernel_rfl
@[simp] theorem tk_73 : tk Tryz.prog 73 = .fn := by kernel_rfl
@[simp] theorem tsz_73 : tsz Tryz.prog 73 = 1 := by kernel_rfl
@[simp] theorem tby_73 : tby Tryz.prog 73 = 8 := by kernel_rfl
@[simp] theorem az_73 : azero Tryz.prog 73 = AV.c Value.nilFunc := by kernel_rfl
@[simp] theorem tk_74 : tk Tryz.prog 74 = .other := by kernel_rfl
@[simp] theorem tsz_74 : tsz Tryz.prog 74 = 1 := by kernel_rfl
@[simp] theorem tby_74 : tby Tryz.prog 74 = 0 := by kernel_rfl
@[simp] theorem az_74 : azero Tryz.prog 74 = AV.junk := by kernel_rfl
@[simp] theorem tk_75 : tk Tryz.prog 75 = .fn := by kernel_rfl
@[simp] theorem tsz_75 : tsz Tryz.prog 75 = 1 := by kernel_rfl
@[simp] theorem tby_75 : tby Tryz.prog 75 = 8 := by kernel_rfl
@[simp] theorem az_75 : azero Tryz.prog 75 = AV.c Value.nilFunc := by kernel_rfl
@[simp] theorem tk_76 : tk Tryz.prog 76 = .fn := by kernel_rfl
@[simp] theorem tsz_76 : tsz Tryz.prog 76 = 1 := by kernel_rfl
@[simp] theorem tby_76 : tby Tryz.prog 76 = 8 := by kernel_rfl
@[simp] theorem az_76 : azero Tryz.prog 76 = AV.c Value.nilFunc := by kernel_rfl
@[simp] theorem tk_77 : tk Tryz.prog 77 = .other := by kernel_rfl
@[simp] theorem tsz_77 : tsz Tryz.prog 77 = 1 := by kernel_rfl
@[simp] theorem tby_77 : tby Tryz.prog 77 = 0 := by kernel_rfl
@[simp] theorem az_77 : azero Tryz.prog 77 = AV.junk := by kernel_rfl
@[simp] theorem tk_78 : tk Tryz.prog 78 = .fn := by kernel_rfl
@[simp] theorem tsz_78 : tsz Tryz.prog 78 = 1 := by kernel_rfl
@[simp] theorem tby_78 : tby Tryz.prog 78 = 8 := by kernel_rfl
@[simp] theorem az_78 : azero Tryz.prog 78 = AV.c Value.nilFunc := by kernel_rfl
@[simp] theorem tk_79 : tk Tryz.prog 79 = .fn := by kernel_rfl
@[simp] theorem tsz_79 : tsz Tryz.prog 79 = 1 := by kernel_rfl
@[simp] theorem tby_79 : tby Tryz.prog 79 = 8 := by kernel_rfl
@[simp] theorem az_79 : azero Tryz.prog 79 = AV.c Value.nilFunc := by kernel_rfl
@[simp] theorem tk_80 : tk Tryz.prog 80 = .fn := by kernel_rfl
@[simp] theorem tsz_80 : tsz Tryz.prog 80 = 1 := by kernel_rfl
@[simp] theorem tby_80 : tby Tryz.prog 80 = 8 := by kernel_rfl
@[simp] theorem az_80 : azero Tryz.prog 80 = AV.c Value.nilFunc := by kernel_rfl
@[simp] theorem tk_81 : tk Tryz.prog 81 = .fn := by kernel_rfl
@[simp] theorem tsz_81 : tsz Tryz.prog 81 = 1 := by kernel_rfl
@[simp] theorem tby_81 : tby Tryz.prog 81 = 8 := by kernel_rfl
@[simp] theorem az_81 : azero Tryz.prog 81 = AV.c Value.nilFunc := by kernel_rfl
@[simp] theorem tk_82 : tk Tryz.prog 82 = .fn := by kernel_rfl
@[simp] theorem tsz_82 : tsz Tryz.prog 82 = 1 := by kernel_rfl
@[simp] theorem tby_82 : tby Tryz.prog 82 = 8 := by kernel_rfl
@[simp] theorem az_82 : azero Tryz.prog 82 = AV.c Value.nilFunc := by kernel_rfl
@[simp] theorem tk_83 : tk Tryz.prog 83 = .fn := by kernel_rfl
@[simp] theorem tsz_83 : tsz Tryz.prog 83 = 1 := by kernel_rfl
@[simp] theorem tby_83 : tby Tryz.prog 83 = 8 := by kernel_rfl
@[simp] theorem az_83 : azero Tryz.prog 83 = AV.c Value.nilFunc := by kernel_rfl
@[simp] theorem tk_84 : tk Tryz.prog 84 = .fn := by kernel_rfl
@[simp] theorem tsz_84 : tsz Tryz.prog 84 = 1 := by kernel_rfl
@[simp] theorem tby_84 : tby Tryz.prog 84 = 8 := by kernel_rfl
@[simp] theorem az_84 : azero Tryz.prog 84 = AV.c Value.nilFunc := by kernel_rfl
@[simp] theorem tk_85 : tk Tryz.prog 85 = .other := by kernel_rfl
@[simp] theorem tsz_85 : tsz Tryz.prog 85 = 1 := by kernel_rfl
@[simp] theorem tby_85 : tby Tryz.prog 85 = 0 := by kernel_rfl
@[simp] theorem az_85 : azero Tryz.prog 85 = AV.junk := by kernel_rfl
@[simp] theorem tk_86 : tk Tryz.prog 86 = .fn := by kernel_rfl
@[simp] theorem tsz_86 : tsz Tryz.prog 86 = 1 := by kernel_rfl
@[simp] theorem tby_86 : tby Tryz.prog 86 = 8 := by kernel_rfl
@[simp] theorem az_86 : azero Tryz.prog 86 = AV.c Value.nilFunc := by kernel_rfl
@[simp] theorem tk_87 : tk Tryz.prog 87 = .fn := by kernel_rfl
@[simp] theorem tsz_87 : tsz Tryz.prog 87 = 1 := by kernel_rfl
@[simp] theorem tby_87 : tby Tryz.prog 87 = 8 := by kernel_rfl
@[simp] theorem az_87 : azero Tryz.prog 87 = AV.c Value.nilFunc := by kernel_rfl
@[simp] theorem tk_88 : tk Tryz.prog 88 = .fn := by kernel_rfl
@[simp] theorem tsz_88 : tsz Tryz.prog 88 = 1 := by kernel_rfl
@[simp] theorem tby_88 : tby Tryz.prog 88 = 8 := by kernel_rfl
@[simp] theorem az_88 : azero Tryz.prog 88 = AV.c Value.nilFunc := by kernel_rfl
@[simp] theorem tk_89 : tk Tryz.prog 89 = .other := by kernel_rfl
@[simp] theorem tsz_89 : tsz Tryz.prog 89 = 1 := by kernel_rfl
@[simp] theorem tby_89 : tby Tryz.prog 89 = 0 := by kernel_rfl
@[simp] theorem az_89 : azero Tryz.prog 89 = AV.junk := by kernel_rfl
@[simp] theorem tk_90 : tk Tryz.prog 90 = .fn := by kernel_rfl
@[simp] theorem tsz_90 : tsz Tryz.prog 90 = 1 := by kernel_rfl
@[simp] theorem tby_90 : tby Tryz.prog 90 = 8 := by kernel_rfl
@[simp] theorem az_90 : azero Tryz.prog 90 = AV.c Value.nilFunc := by kernel_rfl
@[simp] theorem tk_91 : tk Tryz.prog 91 = .fn := by kernel_rfl
@[simp] theorem tsz_91 : tsz Tryz.prog 91 = 1 := by kernel_rfl
@[simp] theorem tby_91 : tby Tryz.prog 91 = 8 := by kernel_rfl
@[simp] theorem az_91 : azero Tryz.prog 91 = AV.c Value.nilFunc := by kernel_rfl
@[simp] theorem tk_92 : tk Tryz.prog 92 = .ptr 94 := by kernel_rfl
@[simp] theorem tsz_92 : tsz Tryz.prog 92 = 1 := by kernel_rfl
@[simp] theorem tby_92 : tby Tryz.prog 92 = 8 := by kernel_rfl
@[simp] theorem az_92 : azero Tryz.prog 92 = AV.c (Value.pointer none) := by kernel_rfl
@[simp] theorem tk_93 : tk Tryz.prog 93 = .strct := by kernel_rfl
@[simp] theorem tsz_93 : tsz Tryz.prog 93 = 2 := by kernel_rfl
@[simp] theorem tby_93 : tby Tryz.prog 93 = 32 := by kernel_rfl
@[simp] theorem az_93 : azero Tryz.prog 93 = AV.agg [AV.nl, AV.c (Value.int .i64 0)] := by kernel_rfl
@[simp] theorem plc_93 : plc Tryz.prog 93 = some [(0, 1), (1, 1)] := by kernel_rfl
@[simp] theorem tk_94 : tk Tryz.prog 94 = .strct := by kernel_rfl
@[simp] theorem tsz_94 : tsz Tryz.prog 94 = 2 := by kernel_rfl
@[simp] theorem tby_94 : tby Tryz.prog 94 = 32 := by kernel_rfl
@[simp] theorem az_94 : azero Tryz.prog 94 = AV.agg [AV.nl, AV.c (Value.int .i64 0)] := by kernel_rfl
@[simp] theorem plc_94 : plc Tryz.prog 94 = some [(0, 1), (1, 1)] := by kernel_rfl
@[simp] theorem tk_95 : tk Tryz.prog 95 = .fn := by kernel_rfl
@[simp] theorem tsz_95 : tsz Tryz.prog 95 = 1 := by kernel_rfl
@[simp] theorem tby_95 : tby Tryz.prog 95 = 8 := by kernel_rfl
@[simp] theorem az_95 : azero Tryz.prog 95 = AV.c Value.nilFunc := by kernel_rfl
@[simp] theorem tk_96 : tk Tryz.prog 96 = .fn := by kernel_rfl
@[simp] theorem tsz_96 : tsz Tryz.prog 96 = 1 := by kernel_rfl
@[simp] theorem tby_96 : tby Tryz.prog 96 = 8 := by kernel_rfl
@[simp] theorem az_96 : azero Tryz.prog 96 = AV.c Value.nilFunc := by kernel_rfl
@[simp] theorem tk_97 : tk Tryz.prog 97 = .fn := by kernel_rfl
@[simp] theorem tsz_97 : tsz Tryz.prog 97 = 1 := by kernel_rfl
@[simp] theorem tby_97 : tby Tryz.prog 97 = 8 := by kernel_rfl
@[simp] theorem az_97 : azero Tryz.prog 97 = AV.c Value.nilFunc := by kernel_rfl
@[simp] theorem tk_98 : tk Tryz.prog 98 = .fn := by kernel_rfl
@[simp] theorem tsz_98 : tsz Tryz.prog 98 = 1 := by kernel_rfl
@[simp] theorem tby_98 : tby Tryz.prog 98 = 8 := by kernel_rfl
@[simp] theorem az_98 : azero Tryz.prog 98 = AV.c Value.nilFunc := by kernel_rfl
@[simp] theorem tk_99 : tk Tryz.prog 99 = .strct := by kernel_rfl
@[simp] theorem tsz_99 : tsz Tryz.prog 99 = 6 := by kernel_rfl
@[simp] theorem tby_99 : tby Tryz.prog 99 = 56 := by kernel_rfl
@[simp] theorem az_99 : azero Tryz.prog 99 = AV.agg [AV.c (Value.string (⟨#[]⟩ : ByteArray)), AV.c (Value.int .i64 0), AV.c (Value.int .i64 0), AV.c (Value.int .i64 0), AV.c (Value.int .i64 0), AV.c (Value.int .i64 0)] := by kernel_rfl
@[simp] theorem plc_99 : plc Tryz.prog 99 = some [(0, 1), (1, 1), (2, 1), (3, 1), (4, 1), (5, 1)] := by kernel_rfl
@[simp] theorem tk_100 : tk Tryz.prog 100 = .strct := by kernel_rfl
@[simp] theorem tsz_100 : tsz Tryz.prog 100 = 6 := by kernel_rfl
@[simp] theorem tby_100 : tby Tryz.prog 100 = 56 := by kernel_rfl
@[simp] theorem az_100 : azero Tryz.prog 100 = AV.agg [AV.c (Value.string (⟨#[]⟩ : ByteArray)), AV.c (Value.int .i64 0), AV.c (Value.int .i64 0), AV.c (Value.int .i64 0), AV.c (Value.int .i64 0), AV.c (Value.int .i64 0)] := by kernel_rfl
@[simp] theorem plc_100 : plc Tryz.prog 100 = some [(0, 1), (1, 1), (2, 1), (3, 1), (4, 1), (5, 1)] := by kernel_rfl
@[simp] theorem tk_101 : tk Tryz.prog 101 = .strct := by kernel_rfl
@[simp] theorem tsz_101 : tsz Tryz.prog 101 = 6 := by kernel_rfl
@[simp] theorem tby_101 : tby Tryz.prog 101 = 112 := by kernel_rfl
@[simp] theorem az_101 : azero Tryz.prog 101 = AV.agg [AV.c (Value.bool false), AV.nl, AV.nl, AV.nl, AV.nl, AV.c (Value.bool false)] := by kernel_rfl
@[simp] theorem plc_101 : plc Tryz.prog 101 = some [(0, 4), (4, 1), (5, 1)] := by kernel_rfl
@[simp] theorem tk_102 : tk Tryz.prog 102 = .strct := by kernel_rfl
@[simp] theorem tsz_102 : tsz Tryz.prog 102 = 6 := by kernel_rfl
@[simp] theorem tby_102 : tby Tryz.prog 102 = 112 := by kernel_rfl
@[simp] theorem az_102 : azero Tryz.prog 102 = AV.agg [AV.c (Value.bool false), AV.nl, AV.nl, AV.nl, AV.nl, AV.c (Value.bool false)] := by kernel_rfl
@[simp] theorem plc_102 : plc Tryz.prog 102 = some [(0, 4), (4, 1), (5, 1)] := by kernel_rfl
@[simp] theorem tk_103 : tk Tryz.prog 103 = .fn := by kernel_rfl
@[simp] theorem tsz_103 : tsz Tryz.prog 103 = 1 := by kernel_rfl
@[simp] theorem tby_103 : tby Tryz.prog 103 = 8 := by kernel_rfl
@[simp] theorem az_103 : azero Tryz.prog 103 = AV.c Value.nilFunc := by kernel_rfl
@[simp] theorem tk_104 : tk Tryz.prog 104 = .fn := by kernel_rfl
@[simp] theorem tsz_104 : tsz Tryz.prog 104 = 1 := by kernel_rfl
@[simp] theorem tby_104 : tby Tryz.prog 104 = 8 := by kernel_rfl
@[simp] theorem az_104 : azero Tryz.prog 104 = AV.c Value.nilFunc := by kernel_rfl
@[simp] theorem tk_105 : tk Tryz.prog 105 = .fn := by kernel_rfl
@[simp] theorem tsz_105 : tsz Tryz.prog 105 = 1 := by kernel_rfl
@[simp] theorem tby_105 : tby Tryz.prog 105 = 8 := by kernel_rfl
@[simp] theorem az_105 : azero Tryz.prog 105 = AV.c Value.nilFunc := by kernel_rfl
@[simp] theorem tk_106 : tk Tryz.prog 106 = .strct := by kernel_rfl
@[simp] theorem tsz_106 : tsz Tryz.prog 106 = 6 := by kernel_rfl
@[simp] theorem tby_106 : tby Tryz.prog 106 = 56 := by kernel_rfl
@[simp] theorem az_106 : azero Tryz.prog 106 = AV.agg [AV.c (Value.string (⟨#[]⟩ : ByteArray)), AV.c (Value.int .i64 0), AV.c (Value.int .i64 0), AV.c (Value.int .i64 0), AV.c (Value.int .i64 0), AV.c (Value.int .i64 0)] := by kernel_rfl
@[simp] theorem plc_106 : plc Tryz.prog 106 = some [(0, 1), (1, 1), (2, 1), (3, 1), (4, 1), (5, 1)] := by kernel_rfl
@[simp] theorem tk_107 : tk Tryz.prog 107 = .strct := by kernel_rfl
@[simp] theorem tsz_107 : tsz Tryz.prog 107 = 8 := by kernel_rfl
@[simp] theorem tby_107 : tby Tryz.prog 107 = 88 := by kernel_rfl
@[simp] theorem az_107 : azero Tryz.prog 107 = AV.agg [AV.c (Value.string (⟨#[]⟩ : ByteArray)), AV.c (Value.int .i64 0), AV.c (Value.int .i64 0), AV.c (Value.int .i64 0), AV.c (Value.int .i64 0), AV.c (Value.int .i64 0), AV.nl, AV.c (Value.int .i64 0)] := by kernel_rfl
@[simp] theorem plc_107 : plc Tryz.prog 107 = some [(0, 6), (6, 1), (7, 1)] := by kernel_rfl
@[simp] theorem tk_108 : tk Tryz.prog 108 = .strct := by kernel_rfl
@[simp] theorem tsz_108 : tsz Tryz.prog 108 = 8 := by kernel_rfl
@[simp] theorem tby_108 : tby Tryz.prog 108 = 88 := by kernel_rfl
@[simp] theorem az_108 : azero Tryz.prog 108 = AV.agg [AV.c (Value.string (⟨#[]⟩ : ByteArray)), AV.c (Value.int .i64 0), AV.c (Value.int .i64 0), AV.c (Value.int .i64 0), AV.c (Value.int .i64 0), AV.c (Value.int .i64 0), AV.nl, AV.c (Value.int .i64 0)] := by kernel_rfl
@[simp] theorem plc_108 : plc Tryz.prog 108 = some [(0, 6), (6, 1), (7, 1)] := by kernel_rfl
@[simp] theorem tk_109 : tk Tryz.prog 109 = .fn := by kernel_rfl
@[simp] theorem tsz_109 : tsz Tryz.prog 109 = 1 := by kernel_rfl
@[simp] theorem tby_109 : tby Tryz.prog 109 = 8 := by kernel_rfl
@[simp] theorem az_109 : azero Tryz.prog 109 = AV.c Value.nilFunc := by kernel_rfl
@[simp] theorem tk_110 : tk Tryz.prog 110 = .other := by kernel_rfl
@[simp] theorem tsz_110 : tsz Tryz.prog 110 = 1 := by kernel_rfl
@[simp] theorem tby_110 : tby Tryz.prog 110 = 0 := by kernel_rfl
@[simp] theorem az_110 : azero Tryz.prog 110 = AV.junk := by kernel_rfl
@[simp] theorem tk_111 : tk Tryz.prog 111 = .fn := by kernel_rfl
@[simp] theorem tsz_111 : tsz Tryz.prog 111 = 1 := by kernel_rfl
@[simp] theorem tby_111 : tby Tryz.prog 111 = 8 := by kernel_rfl
@[simp] theorem az_111 : azero Tryz.prog 111 = AV.c Value.nilFunc := by kernel_rfl
@[simp] theorem tk_112 : tk Tryz.prog 112 = .other := by kernel_rfl
@[simp] theorem tsz_112 : tsz Tryz.prog 112 = 1 := by kernel_rfl
@[simp] theorem tby_112 : tby Tryz.prog 112 = 0 := by kernel_rfl
@[simp] theorem az_112 : azero Tryz.prog 112 = AV.junk := by kernel_rfl
@[simp] theorem tk_113 : tk Tryz.prog 113 = .fn := by kernel_rfl
@[simp] theorem tsz_113 : tsz Tryz.prog 113 = 1 := by kernel_rfl
@[simp] theorem tby_113 : tby Tryz.prog 113 = 8 := by kernel_rfl
@[simp] theorem az_113 : azero Tryz.prog 113 = AV.c Value.nilFunc := by kernel_rfl
@[simp] theorem tk_114 : tk Tryz.prog 114 = .other := by kernel_rfl
@[simp] theorem tsz_114 : tsz Tryz.prog 114 = 1 := by kernel_rfl
@[simp] theorem tby_114 : tby Tryz.prog 114 = 0 := by kernel_rfl
@[simp] theorem az_114 : azero Tryz.prog 114 = AV.junk := by kernel_rfl
@[simp] theorem tk_115 : tk Tryz.prog 115 = .fn := by kernel_rfl
@[simp] theorem tsz_115 : tsz Tryz.prog 115 = 1 := by kernel_rfl
@[simp] theorem tby_115 : tby Tryz.prog 115 = 8 := by kernel_rfl
@[simp] theorem az_115 : azero Tryz.prog 115 = AV.c Value.nilFunc := by kernel_rfl
@[simp] theorem tk_116 : tk Tryz.prog 116 = .other := by kernel_rfl
@[simp] theorem tsz_116 : tsz Tryz.prog 116 = 1 := by kernel_rfl
@[simp] theorem tby_116 : tby Tryz.prog 116 = 0 := by kernel_rfl
@[simp] theorem az_116 : azero Tryz.prog 116 = AV.junk := by kernel_rfl
@[simp] theorem tk_117 : tk Tryz.prog 117 = .fn := by kernel_rfl
@[simp] theorem tsz_117 : tsz Tryz.prog 117 = 1 := by kernel_rfl
@[simp] theorem tby_117 : tby Tryz.prog 117 = 8 := by kernel_rfl
@[simp] theorem az_117 : azero Tryz.prog 117 = AV.c Value.nilFunc := by kernel_rfl
@[simp] theorem tk_118 : tk Tryz.prog 118 = .fn := by kernel_rfl
@[simp] theorem tsz_118 : tsz Tryz.prog 118 = 1 := by kernel_rfl
@[simp] theorem tby_118 : tby Tryz.prog 118 = 8 := by kernel_rfl
@[simp] theorem az_118 : azero Tryz.prog 118 = AV.c Value.nilFunc := by kernel_rfl
@[simp] theorem tk_119 : tk Tryz.prog 119 = .fn := by kernel_rfl
@[simp] theorem tsz_119 : tsz Tryz.prog 119 = 1 := by kernel_rfl
@[simp] theorem tby_119 : tby Tryz.prog 119 = 8 := by kernel_rfl
@[simp] theorem az_119 : azero Tryz.prog 119 = AV.c Value.nilFunc := by kernel_rfl
@[simp] theorem tk_120 : tk Tryz.prog 120 = .fn := by kernel_rfl
@[simp] theorem tsz_120 : tsz Tryz.prog 120 = 1 := by kernel_rfl
@[simp] theorem tby_120 : tby Tryz.prog 120 = 8 := by kernel_rfl
@[simp] theorem az_120 : azero Tryz.prog 120 = AV.c Value.nilFunc := by kernel_rfl
@[simp] theorem tk_121 : tk Tryz.prog 121 = .other := by kernel_rfl
@[simp] theorem tsz_121 : tsz Tryz.prog 121 = 1 := by kernel_rfl
@[simp] theorem tby_121 : tby Tryz.prog 121 = 0 := by kernel_rfl
@[simp] theorem az_121 : azero Tryz.prog 121 = AV.junk := by kernel_rfl
@[simp] theorem tk_122 : tk Tryz.prog 122 = .fn := by kernel_rfl
@[simp] theorem tsz_122 : tsz Tryz.prog 122 = 1 := by kernel_rfl
@[simp] theorem tby_122 : tby Tryz.prog 122 = 8 := by kernel_rfl
@[simp] theorem az_122 : azero Tryz.prog 122 = AV.c Value.nilFunc := by kernel_rfl
@[simp] theorem tk_123 : tk Tryz.prog 123 = .other := by kernel_rfl
@[simp] theorem tsz_123 : tsz Tryz.prog 123 = 1 := by kernel_rfl
@[simp] theorem tby_123 : tby Tryz.prog 123 = 0 := by kernel_rfl
@[simp] theorem az_123 : azero Tryz.prog 123 = AV.junk := by kernel_rfl
@[simp] theorem tk_124 : tk Tryz.prog 124 = .fn := by kernel_rfl
@[simp] theorem tsz_124 : tsz Tryz.prog 124 = 1 := by kernel_rfl
@[simp] theorem tby_124 : tby Tryz.prog 124 = 8 := by kernel_rfl
@[simp] theorem az_124 : azero Tryz.prog 124 = AV.c Value.nilFunc := by kernel_rfl
@[simp] theorem tk_125 : tk Tryz.prog 125 = .fn := by kernel_rfl
@[simp] theorem tsz_125 : tsz Tryz.prog 125 = 1 := by kernel_rfl
@[simp] theorem tby_125 : tby Tryz.prog 125 = 8 := by kernel_rfl
@[simp] theorem az_125 : azero Tryz.prog 125 = AV.c Value.nilFunc := by kernel_rfl
@[simp] theorem tk_126 : tk Tryz.prog 126 = .fn := by kernel_rfl
@[simp] theorem tsz_126 : tsz Tryz.prog 126 = 1 := by kernel_rfl
@[simp] theorem tby_126 : tby Tryz.prog 126 = 8 := by kernel_rfl
@[simp] theorem az_126 : azero Tryz.prog 126 = AV.c Value.nilFunc := by kernel_rfl
@[simp] theorem tk_127 : tk Tryz.prog 127 = .other := by kernel_rfl
@[simp] theorem tsz_127 : tsz Tryz.prog 127 = 1 := by kernel_rfl
@[simp] theorem tby_127 : tby Tryz.prog 127 = 0 := by kernel_rfl
@[simp] theorem az_127 : azero Tryz.prog 127 = AV.junk := by kernel_rfl
@[simp] theorem tk_128 : tk Tryz.prog 128 = .fn := by kernel_rfl
@[simp] theorem tsz_128 : tsz Tryz.prog 128 = 1 := by kernel_rfl
@[simp] theorem tby_128 : tby Tryz.prog 128 = 8 := by kernel_rfl
@[simp] theorem az_128 : azero Tryz.prog 128 = AV.c Value.nilFunc := by kernel_rfl
@[simp] theorem tk_129 : tk Tryz.prog 129 = .fn := by kernel_rfl
@[simp] theorem tsz_129 : tsz Tryz.prog 129 = 1 := by kernel_rfl
@[simp] theorem tby_129 : tby Tryz.prog 129 = 8 := by kernel_rfl
@[simp] theorem az_129 : azero Tryz.prog 129 = AV.c Value.nilFunc := by kernel_rfl
@[simp] theorem tk_130 : tk Tryz.prog 130 = .fn := by kernel_rfl
@[simp] theorem tsz_130 : tsz Tryz.prog 130 = 1 := by kernel_rfl
@[simp] theorem tby_130 : tby Tryz.prog 130 = 8 := by kernel_rfl
@[simp] theorem az_130 : azero Tryz.prog 130 = AV.c Value.nilFunc := by kernel_rfl
@[simp] theorem tk_131 : tk Tryz.prog 131 = .fn := by kernel_rfl
@[simp] theorem tsz_131 : tsz Tryz.prog 131 = 1 := by kernel_rfl
@[simp] theorem tby_131 : tby Tryz.prog 131 = 8 := by kernel_rfl
@[simp] theorem az_131 : azero Tryz.prog 131 = AV.c Value.nilFunc := by kernel_rfl
@[simp] theorem tk_132 : tk Tryz.prog 132 = .fn := by kernel_rfl
@[simp] theorem tsz_132 : tsz Tryz.prog 132 = 1 := by kernel_rfl
@[simp] theorem tby_132 : tby Tryz.prog 132 = 8 := by kernel_rfl
@[simp] theorem az_132 : azero Tryz.prog 132 = AV.c Value.nilFunc := by kernel_rfl
@[simp] theorem tk_133 : tk Tryz.prog 133 = .fn := by kernel_rfl
@[simp] theorem tsz_133 : tsz Tryz.prog 133 = 1 := by kernel_rfl
@[simp] theorem tby_133 : tby Tryz.prog 133 = 8 := by kernel_rfl
@[simp] theorem az_133 : azero Tryz.prog 133 = AV.c Value.nilFunc := by kernel_rfl
@[simp] theorem tk_134 : tk Tryz.prog 134 = .fn := by kernel_rfl
@[simp] theorem tsz_134 : tsz Tryz.prog 134 = 1 := by kernel_rfl
@[simp] theorem tby_134 : tby Tryz.prog 134 = 8 := by kernel_rfl
@[simp] theorem az_134 : azero Tryz.prog 134 = AV.c Value.nilFunc := by kernel_rfl
@[simp] theorem tk_135 : tk Tryz.prog 135 = .fn := by kernel_rfl
@[simp] theorem tsz_135 : tsz Tryz.prog 135 = 1 := by kernel_rfl
@[simp] theorem tby_135 : tby Tryz.prog 135 = 8 := by kernel_rfl
@[simp] theorem az_135 : azero Tryz.prog 135 = AV.c Value.nilFunc := by kernel_rfl
@[simp] theorem tk_136 : tk Tryz.prog 136 = .strct := by kernel_rfl
@[simp] theorem tsz_136 : tsz Tryz.prog 136 = 1 := by kernel_rfl
@[simp] theorem tby_136 : tby Tryz.prog 136 = 8 := by kernel_rfl
@[simp] theorem az_136 : azero Tryz.prog 136 = AV.agg [AV.c (Value.int .i64 0)] := by kernel_rfl
@[simp] theorem plc_136 : plc Tryz.prog 136 = some [(0, 1)] := by kernel_rfl
@[simp] theorem tk_137 : tk Tryz.prog 137 = .strct := by kernel_rfl
@[simp] theorem tsz_137 : tsz Tryz.prog 137 = 1 := by kernel_rfl
@[simp] theorem tby_137 : tby Tryz.prog 137 = 8 := by kernel_rfl
@[simp] theorem az_137 : azero Tryz.prog 137 = AV.agg [AV.c (Value.int .i64 0)] := by kernel_rfl
@[simp] theorem plc_137 : plc Tryz.prog 137 = some [(0, 1)] := by kernel_rfl
@[simp] theorem tk_138 : tk Tryz.prog 138 = .other := by kernel_rfl
@[simp] theorem tsz_138 : tsz Tryz.prog 138 = 1 := by kernel_rfl
@[simp] theorem tby_138 : tby Tryz.prog 138 = 0 := by kernel_rfl
@[simp] theorem az_138 : azero Tryz.prog 138 = AV.junk := by kernel_rfl
@[simp] theorem tk_139 : tk Tryz.prog 139 = .ptr 141 := by kernel_rfl
@[simp] theorem tsz_139 : tsz Tryz.prog 139 = 1 := by kernel_rfl
@[simp] theorem tby_139 : tby Tryz.prog 139 = 8 := by kernel_rfl
@[simp] theorem az_139 : azero Tryz.prog 139 = AV.c (Value.pointer none) := by kernel_rfl
@[simp] theorem tk_140 : tk Tryz.prog 140 = .strct := by kernel_rfl
@[simp] theorem tsz_140 : tsz Tryz.prog 140 = 1 := by kernel_rfl
@[simp] theorem tby_140 : tby Tryz.prog 140 = 24 := by kernel_rfl
@[simp] theorem az_140 : azero Tryz.prog 140 = AV.agg [AV.nl] := by kernel_rfl
@[simp] theorem plc_140 : plc Tryz.prog 140 = some [(0, 1)] := by kernel_rfl
@[simp] theorem tk_141 : tk Tryz.prog 141 = .strct := by kernel_rfl
@[simp] theorem tsz_141 : tsz Tryz.prog 141 = 1 := by kernel_rfl
@[simp] theorem tby_141 : tby Tryz.prog 141 = 24 := by kernel_rfl
@[simp] theorem az_141 : azero Tryz.prog 141 = AV.agg [AV.nl] := by kernel_rfl
@[simp] theorem plc_141 : plc Tryz.prog 141 = some [(0, 1)] := by kernel_rfl
@[simp] theorem tk_142 : tk Tryz.prog 142 = .fn := by kernel_rfl
@[simp] theorem tsz_142 : tsz Tryz.prog 142 = 1 := by kernel_rfl
@[simp] theorem tby_142 : tby Tryz.prog 142 = 8 := by kernel_rfl
@[simp] theorem az_142 : azero Tryz.prog 142 = AV.c Value.nilFunc := by kernel_rfl
@[simp] theorem tk_143 : tk Tryz.prog 143 = .fn := by kernel_rfl
@[simp] theorem tsz_143 : tsz Tryz.prog 143 = 1 := by kernel_rfl
@[simp] theorem tby_143 : tby Tryz.prog 143 = 8 := by kernel_rfl
@[simp] theorem az_143 : azero Tryz.prog 143 = AV.c Value.nilFunc := by kernel_rfl
@[simp] theorem tk_144 : tk Tryz.prog 144 = .fn := by kernel_rfl
@[simp] theorem tsz_144 : tsz Tryz.prog 144 = 1 := by kernel_rfl
@[simp] theorem tby_144 : tby Tryz.prog 144 = 8 := by kernel_rfl
@[simp] theorem az_144 : azero Tryz.prog 144 = AV.c Value.nilFunc := by kernel_rfl
@[simp] theorem tk_145 : tk Tryz.prog 145 = .fn := by kernel_rfl
@[simp] theorem tsz_145 : tsz Tryz.prog 145 = 1 := by kernel_rfl
@[simp] theorem tby_145 : tby Tryz.prog 145 = 8 := by kernel_rfl
@[simp] theorem az_145 : azero Tryz.prog 145 = AV.c Value.nilFunc := by kernel_rfl
@[simp] theorem tk_146 : tk Tryz.prog 146 = .other := by kernel_rfl
@[simp] theorem tsz_146 : tsz Tryz.prog 146 = 1 := by kernel_rfl
@[simp] theorem tby_146 : tby Tryz.prog 146 = 0 := by kernel_rfl
@[simp] theorem az_146 : azero Tryz.prog 146 = AV.junk := by kernel_rfl
@[simp] theorem tk_147 : tk Tryz.prog 147 = .fn := by kernel_rfl
@[simp] theorem tsz_147 : tsz Tryz.prog 147 = 1 := by kernel_rfl
@[simp] theorem tby_147 : tby Tryz.prog 147 = 8 := by kernel_rfl
@[simp] theorem az_147 : azero Tryz.prog 147 = AV.c Value.nilFunc := by kernel_rfl
@[simp] theorem tk_148 : tk Tryz.prog 148 = .fn := by kernel_rfl
@[simp] theorem tsz_148 : tsz Tryz.prog 148 = 1 := by kernel_rfl
@[simp] theorem tby_148 : tby Tryz.prog 148 = 8 := by kernel_rfl
@[simp] theorem az_148 : azero Tryz.prog 148 = AV.c Value.nilFunc := by kernel_rfl
@[simp] theorem tk_149 : tk Tryz.prog 149 = .fn := by kernel_rfl
@[simp] theorem tsz_149 : tsz Tryz.prog 149 = 1 := by kernel_rfl
@[simp] theorem tby_149 : tby Tryz.prog 149 = 8 := by kernel_rfl
@[simp] theorem az_149 : azero Tryz.prog 149 = AV.c Value.nilFunc := by kernel_rfl
@[simp] theorem tk_150 : tk Tryz.prog 150 = .other := by kernel_rfl
@[simp] theorem tsz_150 : tsz Tryz.prog 150 = 1 := by kernel_rfl
@[simp] theorem tby_150 : tby Tryz.prog 150 = 0 := by kernel_rfl
@[simp] theorem az_150 : azero Tryz.prog 150 = AV.junk := by kernel_rfl
@[simp] theorem tk_151 : tk Tryz.prog 151 = .fn := by kernel_rfl
@[simp] theorem tsz_151 : tsz Tryz.prog 151 = 1 := by kernel_rfl
@[simp] theorem tby_151 : tby Tryz.prog 151 = 8 := by kernel_rfl
@[simp] theorem az_151 : azero Tryz.prog 151 = AV.c Value.nilFunc := by kernel_rfl
@[simp] theorem tk_152 : tk Tryz.prog 152 = .ptr 102 := by kernel_rfl
@[simp] theorem tsz_152 : tsz Tryz.prog 152 = 1 := by kernel_rfl
@[simp] theorem tby_152 : tby Tryz.prog 152 = 8 := by kernel_rfl
@[simp] theorem az_152 : azero Tryz.prog 152 = AV.c (Value.pointer none) := by kernel_rfl
@[simp] theorem tk_153 : tk Tryz.prog 153 = .other := by kernel_rfl
@[simp] theorem tsz_153 : tsz Tryz.prog 153 = 1 := by kernel_rfl
@[simp] theorem tby_153 : tby Tryz.prog 153 = 0 := by kernel_rfl
@[simp] theorem az_153 : azero Tryz.prog 153 = AV.junk := by kernel_rfl
@[simp] theorem tk_154 : tk Tryz.prog 154 = .fn := by kernel_rfl
@[simp] theorem tsz_154 : tsz Tryz.prog 154 = 1 := by kernel_rfl
@[simp] theorem tby_154 : tby Tryz.prog 154 = 8 := by kernel_rfl
@[simp] theorem az_154 : azero Tryz.prog 154 = AV.c Value.nilFunc := by kernel_rfl
@[simp] theorem tk_155 : tk Tryz.prog 155 = .other := by kernel_rfl
@[simp] theorem tsz_155 : tsz Tryz.prog 155 = 1 := by kernel_rfl
@[simp] theorem tby_155 : tby Tryz.prog 155 = 0 := by kernel_rfl
@[simp] theorem az_155 : azero Tryz.prog 155 = AV.junk := by kernel_rfl
@[simp] theorem tk_156 : tk Tryz.prog 156 = .fn := by kernel_rfl
@[simp] theorem tsz_156 : tsz Tryz.prog 156 = 1 := by kernel_rfl
@[simp] theorem tby_156 : tby Tryz.prog 156 = 8 := by kernel_rfl
@[simp] theorem az_156 : azero Tryz.prog 156 = AV.c Value.nilFunc := by kernel_rfl
@[simp] theorem tk_157 : tk Tryz.prog 157 = .other := by kernel_rfl
@[simp] theorem tsz_157 : tsz Tryz.prog 157 = 1 := by kernel_rfl
@[simp] theorem tby_157 : tby Tryz.prog 157 = 0 := by kernel_rfl
@[simp] theorem az_157 : azero Tryz.prog 157 = AV.junk := by kernel_rfl
@[simp] theorem tk_158 : tk Tryz.prog 158 = .fn := by kernel_rfl
@[simp] theorem tsz_158 : tsz Tryz.prog 158 = 1 := by kernel_rfl
@[simp] theorem tby_158 : tby Tryz.prog 158 = 8 := by kernel_rfl
@[simp] theorem az_158 : azero Tryz.prog 158 = AV.c Value.nilFunc := by kernel_rfl
@[simp] theorem tk_159 : tk Tryz.prog 159 = .slc 4 := by kernel_rfl
@[simp] theorem tsz_159 : tsz Tryz.prog 159 = 1 := by kernel_rfl
@[simp] theorem tby_159 : tby Tryz.prog 159 = 24 := by kernel_rfl
@[simp] theorem az_159 : azero Tryz.prog 159 = AV.nl := by kernel_rfl
@[simp] theorem tk_160 : tk Tryz.prog 160 = .fn := by kernel_rfl
@[simp] theorem tsz_160 : tsz Tryz.prog 160 = 1 := by kernel_rfl
@[simp] theorem tby_160 : tby Tryz.prog 160 = 8 := by kernel_rfl
@[simp] theorem az_160 : azero Tryz.prog 160 = AV.c Value.nilFunc := by kernel_rfl
@[simp] theorem tk_161 : tk Tryz.prog 161 = .fn := by kernel_rfl
@[simp] theorem tsz_161 : tsz Tryz.prog 161 = 1 := by kernel_rfl
@[simp] theorem tby_161 : tby Tryz.prog 161 = 8 := by kernel_rfl
@[simp] theorem az_161 : azero Tryz.prog 161 = AV.c Value.nilFunc := by kernel_rfl
@[simp] theorem tk_162 : tk Tryz.prog 162 = .fn := by kernel_rfl
@[simp] theorem tsz_162 : tsz Tryz.prog 162 = 1 := by kernel_rfl
@[simp] theorem tby_162 : tby Tryz.prog 162 = 8 := by kernel_rfl
@[simp] theorem az_162 : azero Tryz.prog 162 = AV.c Value.nilFunc := by kernel_rfl
@[simp] theorem tk_163 : tk Tryz.prog 163 = .int .u64 := by kernel_rfl
@[simp] theorem tsz_163 : tsz Tryz.prog 163 = 1 := by kernel_rfl
@[simp] theorem tby_163 : tby Tryz.prog 163 = 8 := by kernel_rfl
@[simp] theorem az_163 : azero Tryz.prog 163 = AV.c (Value.int .u64 0) := by kernel_rfl
@[simp] theorem tk_164 : tk Tryz.prog 164 = .fn := by kernel_rfl
@[simp] theorem tsz_164 : tsz Tryz.prog 164 = 1 := by kernel_rfl
@[simp] theorem tby_164 : tby Tryz.prog 164 = 8 := by kernel_rfl
@[simp] theorem az_164 : azero Tryz.prog 164 = AV.c Value.nilFunc := by kernel_rfl
@[simp] theorem tk_165 : tk Tryz.prog 165 = .fn := by kernel_rfl
@[simp] theorem tsz_165 : tsz Tryz.prog 165 = 1 := by kernel_rfl
@[simp] theorem tby_165 : tby Tryz.prog 165 = 8 := by kernel_rfl
@[simp] theorem az_165 : azero Tryz.prog 165 = AV.c Value.nilFunc := by kernel_rfl
@[simp] theorem tk_166 : tk Tryz.prog 166 = .fn := by kernel_rfl
@[simp] theorem tsz_166 : tsz Tryz.prog 166 = 1 := by kernel_rfl
@[simp] theorem tby_166 : tby Tryz.prog 166 = 8 := by kernel_rfl
@[simp] theorem az_166 : azero Tryz.prog 166 = AV.c Value.nilFunc := by kernel_rfl
@[simp] theorem tk_167 : tk Tryz.prog 167 = .fn := by kernel_rfl
@[simp] theorem tsz_167 : tsz Tryz.prog 167 = 1 := by kernel_rfl
@[simp] theorem tby_167 : tby Tryz.prog 167 = 8 := by kernel_rfl
@[simp] theorem az_167 : azero Tryz.prog 167 = AV.c Value.nilFunc := by kernel_rfl
@[simp] theorem tk_168 : tk Tryz.prog 168 = .map 9 4 := by kernel_rfl
@[simp] theorem tsz_168 : tsz Tryz.prog 168 = 1 := by kernel_rfl
@[simp] theorem tby_168 : tby Tryz.prog 168 = 8 := by kernel_rfl
@[simp] theorem az_168 : azero Tryz.prog 168 = AV.c (Value.map none) := by kernel_rfl
@[simp] theorem tk_169 : tk Tryz.prog 169 = .fn := by kernel_rfl
@[simp] theorem tsz_169 : tsz Tryz.prog 169 = 1 := by kernel_rfl
@[simp] theorem tby_169 : tby Tryz.prog 169 = 8 := by kernel_rfl
@[simp] theorem az_169 : azero Tryz.prog 169 = AV.c Value.nilFunc := by kernel_rfl
@[simp] theorem tk_170 : tk Tryz.prog 170 = .fn := by kernel_rfl
@[simp] theorem tsz_170 : tsz Tryz.prog 170 = 1 := by kernel_rfl
@[simp] theorem tby_170 : tby Tryz.prog 170 = 8 := by kernel_rfl
@[simp] theorem az_170 : azero Tryz.prog 170 = AV.c Value.nilFunc := by kernel_rfl
@[simp] theorem tk_171 : tk Tryz.prog 171 = .fn := by kernel_rfl
@[simp] theorem tsz_171 : tsz Tryz.prog 171 = 1 := by kernel_rfl
@[simp] theorem tby_171 : tby Tryz.prog 171 = 8 := by kernel_rfl
@[simp] theorem az_171 : azero Tryz.prog 171 = AV.c Value.nilFunc := by kernel_rfl
@[simp] theorem tk_172 : tk Tryz.prog 172 = .fn := by kernel_rfl
@[simp] theorem tsz_172 : tsz Tryz.prog 172 = 1 := by kernel_rfl
@[simp] theorem tby_172 : tby Tryz.prog 172 = 8 := by kernel_rfl
@[simp] theorem az_172 : azero Tryz.prog 172 = AV.c Value.nilFunc := by kernel_rfl
@[simp] theorem tk_173 : tk Tryz.prog 173 = .slc 177 := by kernel_rfl
@[simp] theorem tsz_173 : tsz Tryz.prog 173 = 1 := by kernel_rfl
@[simp] theorem tby_173 : tby Tryz.prog 173 = 24 := by kernel_rfl
@[simp] theorem az_173 : azero Tryz.prog 173 = AV.nl := by kernel_rfl
@[simp] theorem tk_174 : tk Tryz.prog 174 = .fn := by kernel_rfl
@[simp] theorem tsz_174 : tsz Tryz.prog 174 = 1 := by kernel_rfl
@[simp] theorem tby_174 : tby Tryz.prog 174 = 8 := by kernel_rfl
@[simp] theorem az_174 : azero Tryz.prog 174 = AV.c Value.nilFunc := by kernel_rfl
@[simp] theorem tk_175 : tk Tryz.prog 175 = .fn := by kernel_rfl
@[simp] theorem tsz_175 : tsz Tryz.prog 175 = 1 := by kernel_rfl
@[simp] theorem tby_175 : tby Tryz.prog 175 = 8 := by kernel_rfl
@[simp] theorem az_175 : azero Tryz.prog 175 = AV.c Value.nilFunc := by kernel_rfl
@[simp] theorem tk_176 : tk Tryz.prog 176 = .strct := by kernel_rfl
@[simp] theorem tsz_176 : tsz Tryz.prog 176 = 4 := by kernel_rfl
@[simp] theorem tby_176 : tby Tryz.prog 176 = 32 := by kernel_rfl
@[simp] theorem az_176 : azero Tryz.prog 176 = AV.agg [AV.c (Value.int .i64 0), AV.c (Value.int .i64 0), AV.c (Value.bool false), AV.c Value.nilFunc] := by kernel_rfl
@[simp] theorem plc_176 : plc Tryz.prog 176 = some [(0, 1), (1, 1), (2, 1), (3, 1)] := by kernel_rfl
@[simp] theorem tk_177 : tk Tryz.prog 177 = .strct := by kernel_rfl
@[simp] theorem tsz_177 : tsz Tryz.prog 177 = 4 := by kernel_rfl
@[simp] theorem tby_177 : tby Tryz.prog 177 = 32 := by kernel_rfl
@[simp] theorem az_177 : azero Tryz.prog 177 = AV.agg [AV.c (Value.int .i64 0), AV.c (Value.int .i64 0), AV.c (Value.bool false), AV.c Value.nilFunc] := by kernel_rfl
@[simp] theorem plc_177 : plc Tryz.prog 177 = some [(0, 1), (1, 1), (2, 1), (3, 1)] := by kernel_rfl
@[simp] theorem tk_178 : tk Tryz.prog 178 = .ptr 3 := by kernel_rfl
@[simp] theorem tsz_178 : tsz Tryz.prog 178 = 1 := by kernel_rfl
@[simp] theorem tby_178 : tby Tryz.prog 178 = 8 := by kernel_rfl
@[simp] theorem az_178 : azero Tryz.prog 178 = AV.c (Value.pointer none) := by kernel_rfl
@[simp] theorem tk_179 : tk Tryz.prog 179 = .ptr 106 := by kernel_rfl
@[simp] theorem tsz_179 : tsz Tryz.prog 179 = 1 := by kernel_rfl
@[simp] theorem tby_179 : tby Tryz.prog 179 = 8 := by kernel_rfl
@[simp] theorem az_179 : azero Tryz.prog 179 = AV.c (Value.pointer none) := by kernel_rfl
@[simp] theorem tk_180 : tk Tryz.prog 180 = .fn := by kernel_rfl
@[simp] theorem tsz_180 : tsz Tryz.prog 180 = 1 := by kernel_rfl
@[simp] theorem tby_180 : tby Tryz.prog 180 = 8 := by kernel_rfl
@[simp] theorem az_180 : azero Tryz.prog 180 = AV.c Value.nilFunc := by kernel_rfl
@[simp] theorem tk_181 : tk Tryz.prog 181 = .fn := by kernel_rfl
@[simp] theorem tsz_181 : tsz Tryz.prog 181 = 1 := by kernel_rfl
@[simp] theorem tby_181 : tby Tryz.prog 181 = 8 := by kernel_rfl
@[simp] theorem az_181 : azero Tryz.prog 181 = AV.c Value.nilFunc := by kernel_rfl
@[simp] theorem tk_182 : tk Tryz.prog 182 = .other := by kernel_rfl
@[simp] theorem tsz_182 : tsz Tryz.prog 182 = 1 := by kernel_rfl
@[simp] theorem tby_182 : tby Tryz.prog 182 = 0 := by kernel_rfl
@[simp] theorem az_182 : azero Tryz.prog 182 = AV.junk := by kernel_rfl
@[simp] theorem tk_183 : tk Tryz.prog 183 = .fn := by kernel_rfl
@[simp] theorem tsz_183 : tsz Tryz.prog 183 = 1 := by kernel_rfl
@[simp] theorem tby_183 : tby Tryz.prog 183 = 8 := by kernel_rfl
@[simp] theorem az_183 : azero Tryz.prog 183 = AV.c Value.nilFunc := by kernel_rfl
@[simp] theorem tk_184 : tk Tryz.prog 184 = .fn := by kernel_rfl
@[simp] theorem tsz_184 : tsz Tryz.prog 184 = 1 := by kernel_rfl
@[simp] theorem tby_184 : tby Tryz.prog 184 = 8 := by kernel_rfl
@[simp] theorem az_184 : azero Tryz.prog 184 = AV.c Value.nilFunc := by kernel_rfl
@[simp] theorem tk_185 : tk Tryz.prog 185 = .fn := by kernel_rfl
@[simp] theorem tsz_185 : tsz Tryz.prog 185 = 1 := by kernel_rfl
@[simp] theorem tby_185 : tby Tryz.prog 185 = 8 := by kernel_rfl
@[simp] theorem az_185 : azero Tryz.prog 185 = AV.c Value.nilFunc := by kernel_rfl
@[simp] theorem tk_186 : tk Tryz.prog 186 = .fn := by kernel_rfl
@[simp] theorem tsz_186 : tsz Tryz.prog 186 = 1 := by kernel_rfl
@[simp] theorem tby_186 : tby Tryz.prog 186 = 8 := by kernel_rfl
@[simp] theorem az_186 : azero Tryz.prog 186 = AV.c Value.nilFunc := by kernel_rfl
@[simp] theorem tk_187 : tk Tryz.prog 187 = .fn := by kernel_rfl
@[simp] theorem tsz_187 : tsz Tryz.prog 187 = 1 := by kernel_rfl
@[simp] theorem tby_187 : tby Tryz.prog 187 = 8 := by kernel_rfl
@[simp] theorem az_187 : azero Tryz.prog 187 = AV.c Value.nilFunc := by kernel_rfl
@[simp] theorem tk_188 : tk Tryz.prog 188 = .fn := by kernel_rfl
@[simp] theorem tsz_188 : tsz Tryz.prog 188 = 1 := by kernel_rfl
@[simp] theorem tby_188 : tby Tryz.prog 188 = 8 := by kernel_rfl
@[simp] theorem az_188 : azero Tryz.prog 188 = AV.c Value.nilFunc := by kernel_rfl
@[simp] theorem tk_189 : tk Tryz.prog 189 = .fn := by kernel_rfl
@[simp] theorem tsz_189 : tsz Tryz.prog 189 = 1 := by kernel_rfl
@[simp] theorem tby_189 : tby Tryz.prog 189 = 8 := by kernel_rfl
@[simp] theorem az_189 : azero Tryz.prog 189 = AV.c Value.nilFunc := by kernel_rfl
@[simp] theorem tk_190 : tk Tryz.prog 190 = .fn := by kernel_rfl
@[simp] theorem tsz_190 : tsz Tryz.prog 190 = 1 := by kernel_rfl
@[simp] theorem tby_190 : tby Tryz.prog 190 = 8 := by kernel_rfl
@[simp] theorem az_190 : azero Tryz.prog 190 = AV.c Value.nilFunc := by kernel_rfl
@[simp] theorem tk_191 : tk Tryz.prog 191 = .fn := by kernel_rfl
@[simp] theorem tsz_191 : tsz Tryz.prog 191 = 1 := by kernel_rfl
@[simp] theorem tby_191 : tby Tryz.prog 191 = 8 := by kernel_rfl
@[simp] theorem az_191 : azero Tryz.prog 191 = AV.c Value.nilFunc := by kernel_rfl
@[simp] theorem tk_192 : tk Tryz.prog 192 = .other := by kernel_rfl
@[simp] theorem tsz_192 : tsz Tryz.prog 192 = 1 := by kernel_rfl
@[simp] theorem tby_192 : tby Tryz.prog 192 = 0 := by kernel_rfl
@[simp] theorem az_192 : azero Tryz.prog 192 = AV.junk := by kernel_rfl
@[simp] theorem tk_193 : tk Tryz.prog 193 = .fn := by kernel_rfl
@[simp] theorem tsz_193 : tsz Tryz.prog 193 = 1 := by kernel_rfl
@[simp] theorem tby_193 : tby Tryz.prog 193 = 8 := by kernel_rfl
@[simp] theorem az_193 : azero Tryz.prog 193 = AV.c Value.nilFunc := by kernel_rfl
@[simp] theorem tk_194 : tk Tryz.prog 194 = .ptr 196 := by kernel_rfl
@[simp] theorem tsz_194 : tsz Tryz.prog 194 = 1 := by kernel_rfl
@[simp] theorem tby_194 : tby Tryz.prog 194 = 8 := by kernel_rfl
@[simp] theorem az_194 : azero Tryz.prog 194 = AV.c (Value.pointer none) := by kernel_rfl
@[simp] theorem tk_195 : tk Tryz.prog 195 = .strct := by kernel_rfl
@[simp] theorem tsz_195 : tsz Tryz.prog 195 = 2 := by kernel_rfl
@[simp] theorem tby_195 : tby Tryz.prog 195 = 32 := by kernel_rfl
@[simp] theorem az_195 : azero Tryz.prog 195 = AV.agg [AV.c (Value.pointer none), AV.nl] := by kernel_rfl
@[simp] theorem plc_195 : plc Tryz.prog 195 = some [(0, 1), (1, 1)] := by kernel_rfl
@[simp] theorem tk_196 : tk Tryz.prog 196 = .strct := by kernel_rfl
@[simp] theorem tsz_196 : tsz Tryz.prog 196 = 2 := by kernel_rfl
@[simp] theorem tby_196 : tby Tryz.prog 196 = 32 := by kernel_rfl
@[simp] theorem az_196 : azero Tryz.prog 196 = AV.agg [AV.c (Value.pointer none), AV.nl] := by kernel_rfl
@[simp] theorem plc_196 : plc Tryz.prog 196 = some [(0, 1), (1, 1)] := by kernel_rfl
@[simp] theorem tk_197 : tk Tryz.prog 197 = .fn := by kernel_rfl
@[simp] theorem tsz_197 : tsz Tryz.prog 197 = 1 := by kernel_rfl
@[simp] theorem tby_197 : tby Tryz.prog 197 = 8 := by kernel_rfl
@[simp] theorem az_197 : azero Tryz.prog 197 = AV.c Value.nilFunc := by kernel_rfl
@[simp] theorem tk_198 : tk Tryz.prog 198 = .ifc := by kernel_rfl
@[simp] theorem tsz_198 : tsz Tryz.prog 198 = 1 := by kernel_rfl
@[simp] theorem tby_198 : tby Tryz.prog 198 = 16 := by kernel_rfl
@[simp] theorem az_198 : azero Tryz.prog 198 = AV.c Value.nilIface := by kernel_rfl
@[simp] theorem tk_199 : tk Tryz.prog 199 = .ifc := by kernel_rfl
@[simp] theorem tsz_199 : tsz Tryz.prog 199 = 1 := by kernel_rfl
@[simp] theorem tby_199 : tby Tryz.prog 199 = 16 := by kernel_rfl
@[simp] theorem az_199 : azero Tryz.prog 199 = AV.c Value.nilIface := by kernel_rfl
@[simp] theorem tk_200 : tk Tryz.prog 200 = .other := by kernel_rfl
@[simp] theorem tsz_200 : tsz Tryz.prog 200 = 1 := by kernel_rfl
@[simp] theorem tby_200 : tby Tryz.prog 200 = 0 := by kernel_rfl
@[simp] theorem az_200 : azero Tryz.prog 200 = AV.junk := by kernel_rfl
@[simp] theorem tk_201 : tk Tryz.prog 201 = .fn := by kernel_rfl
@[simp] theorem tsz_201 : tsz Tryz.prog 201 = 1 := by kernel_rfl
@[simp] theorem tby_201 : tby Tryz.prog 201 = 8 := by kernel_rfl
@[simp] theorem az_201 : azero Tryz.prog 201 = AV.c Value.nilFunc := by kernel_rfl
@[simp] theorem tk_202 : tk Tryz.prog 202 = .fn := by kernel_rfl
@[simp] theorem tsz_202 : tsz Tryz.prog 202 = 1 := by kernel_rfl
@[simp] theorem tby_202 : tby Tryz.prog 202 = 8 := by kernel_rfl
@[simp] theorem az_202 : azero Tryz.prog 202 = AV.c Value.nilFunc := by kernel_rfl
@[simp] theorem tk_203 : tk Tryz.prog 203 = .arr 5 177 := by kernel_rfl
@[simp] theorem tsz_203 : tsz Tryz.prog 203 = 20 := by kernel_rfl
@[simp] theorem tby_203 : tby Tryz.prog 203 = 160 := by kernel_rfl
@[simp] theorem az_203 : azero Tryz.prog 203 = AV.agg [AV.c (Value.int .i64 0), AV.c (Value.int .i64 0), AV.c (Value.bool false), AV.c Value.nilFunc, AV.c (Value.int .i64 0), AV.c (Value.int .i64 0), AV.c (Value.bool false), AV.c Value.nilFunc, AV.c (Value.int .i64 0), AV.c (Value.int .i64 0), AV.c (Value.bool false), AV.c Value.nilFunc, AV.c (Value.int .i64 0), AV.c (Value.int .i64 0), AV.c (Value.bool false), AV.c Value.nilFunc, AV.c (Value.int .i64 0), AV.c (Value.int .i64 0), AV.c (Value.bool false), AV.c Value.nilFunc] := by kernel_rfl
@[simp] theorem plc_203 : plc Tryz.prog 203 = some [(0, 4), (4, 4), (8, 4), (12, 4), (16, 4)] := by kernel_rfl
@[simp] theorem tk_204 : tk Tryz.prog 204 = .fn := by kernel_rfl
@[simp] theorem tsz_204 : tsz Tryz.prog 204 = 1 := by kernel_rfl
@[simp] theorem tby_204 : tby Tryz.prog 204 = 8 := by kernel_rfl
@[simp] theorem az_204 : azero Tryz.prog 204 = AV.c Value.nilFunc := by kernel_rfl
@[simp] theorem tk_205 : tk Tryz.prog 205 = .fn := by kernel_rfl
@[simp] theorem tsz_205 : tsz Tryz.prog 205 = 1 := by kernel_rfl
@[simp] theorem tby_205 : tby Tryz.prog 205 = 8 := by kernel_rfl
@[simp] theorem az_205 : azero Tryz.prog 205 = AV.c Value.nilFunc := by kernel_rfl
@[simp] theorem tk_206 : tk Tryz.prog 206 = .fn := by kernel_rfl
@[simp] theorem tsz_206 : tsz Tryz.prog 206 = 1 := by kernel_rfl
@[simp] theorem tby_206 : tby Tryz.prog 206 = 8 := by kernel_rfl
@[simp] theorem az_206 : azero Tryz.prog 206 = AV.c Value.nilFunc := by kernel_rfl
@[simp] theorem tk_207 : tk Tryz.prog 207 = .fn := by kernel_rfl
@[simp] theorem tsz_207 : tsz Tryz.prog 207 = 1 := by kernel_rfl
@[simp] theorem tby_207 : tby Tryz.prog 207 = 8 := by kernel_rfl
@[simp] theorem az_207 : azero Tryz.prog 207 = AV.c Value.nilFunc := by kernel_rfl
@[simp] theorem tk_208 : tk Tryz.prog 208 = .fn := by kernel_rfl
@[simp] theorem tsz_208 : tsz Tryz.prog 208 = 1 := by kernel_rfl
@[simp] theorem tby_208 : tby Tryz.prog 208 = 8 := by kernel_rfl
@[simp] theorem az_208 : azero Tryz.prog 208 = AV.c Value.nilFunc := by kernel_rfl
@[simp] theorem tk_209 : tk Tryz.prog 209 = .arr 256 4 := by kernel_rfl
@[simp] theorem tsz_209 : tsz Tryz.prog 209 = 256 := by kernel_rfl
@[simp] theorem tby_209 : tby Tryz.prog 209 = 256 := by kernel_rfl
@[simp] theorem tk_210 : tk Tryz.prog 210 = .arr 256 4 := by kernel_rfl
@[simp] theorem tsz_210 : tsz Tryz.prog 210 = 256 := by kernel_rfl
@[simp] theorem tby_210 : tby Tryz.prog 210 = 256 := by kernel_rfl
@[simp] theorem tk_211 : tk Tryz.prog 211 = .other := by kernel_rfl
@[simp] theorem tsz_211 : tsz Tryz.prog 211 = 1 := by kernel_rfl
@[simp] theorem tby_211 : tby Tryz.prog 211 = 0 := by kernel_rfl
@[simp] theorem az_211 : azero Tryz.prog 211 = AV.junk := by kernel_rfl
@[simp] theorem tk_212 : tk Tryz.prog 212 = .fn := by kernel_rfl
@[simp] theorem tsz_212 : tsz Tryz.prog 212 = 1 := by kernel_rfl
@[simp] theorem tby_212 : tby Tryz.prog 212 = 8 := by kernel_rfl
@[simp] theorem az_212 : azero Tryz.prog 212 = AV.c Value.nilFunc := by kernel_rfl
@[simp] theorem tk_213 : tk Tryz.prog 213 = .fn := by kernel_rfl
@[simp] theorem tsz_213 : tsz Tryz.prog 213 = 1 := by kernel_rfl
@[simp] theorem tby_213 : tby Tryz.prog 213 = 8 := by kernel_rfl
@[simp] theorem az_213 : azero Tryz.prog 213 = AV.c Value.nilFunc := by kernel_rfl
@[simp] theorem tk_214 : tk Tryz.prog 214 = .int .u32 := by kernel_rfl
@[simp] theorem tsz_214 : tsz Tryz.prog 214 = 1 := by kernel_rfl
@[simp] theorem tby_214 : tby Tryz.prog 214 = 4 := by kernel_rfl
@[simp] theorem az_214 : azero Tryz.prog 214 = AV.c (Value.int .u32 0) := by kernel_rfl
@[simp] theorem tk_215 : tk Tryz.prog 215 = .other := by kernel_rfl
@[simp] theorem tsz_215 : tsz Tryz.prog 215 = 1 := by kernel_rfl
@[simp] theorem tby_215 : tby Tryz.prog 215 = 0 := by kernel_rfl
@[simp] theorem az_215 : azero Tryz.prog 215 = AV.junk := by kernel_rfl
@[simp] theorem tk_216 : tk Tryz.prog 216 = .fn := by kernel_rfl
@[simp] theorem tsz_216 : tsz Tryz.prog 216 = 1 := by kernel_rfl
@[simp] theorem tby_216 : tby Tryz.prog 216 = 8 := by kernel_rfl
@[simp] theorem az_216 : azero Tryz.prog 216 = AV.c Value.nilFunc := by kernel_rfl
@[simp] theorem tk_217 : tk Tryz.prog 217 = .int .u64 := by kernel_rfl
@[simp] theorem tsz_217 : tsz Tryz.prog 217 = 1 := by kernel_rfl
@[simp] theorem tby_217 : tby Tryz.prog 217 = 8 := by kernel_rfl
@[simp] theorem az_217 : azero Tryz.prog 217 = AV.c (Value.int .u64 0) := by kernel_rfl
@[simp] theorem tk_218 : tk Tryz.prog 218 = .other := by kernel_rfl
@[simp] theorem tsz_218 : tsz Tryz.prog 218 = 1 := by kernel_rfl
@[simp] theorem tby_218 : tby Tryz.prog 218 = 0 := by kernel_rfl
@[simp] theorem az_218 : azero Tryz.prog 218 = AV.junk := by kernel_rfl
@[simp] theorem tk_219 : tk Tryz.prog 219 = .fn := by kernel_rfl
@[simp] theorem tsz_219 : tsz Tryz.prog 219 = 1 := by kernel_rfl
@[simp] theorem tby_219 : tby Tryz.prog 219 = 8 := by kernel_rfl
@[simp] theorem az_219 : azero Tryz.prog 219 = AV.c Value.nilFunc := by kernel_rfl
@[simp] theorem tk_220 : tk Tryz.prog 220 = .ptr 5 := by kernel_rfl
@[simp] theorem tsz_220 : tsz Tryz.prog 220 = 1 := by kernel_rfl
@[simp] theorem tby_220 : tby Tryz.prog 220 = 8 := by kernel_rfl
@[simp] theorem az_220 : azero Tryz.prog 220 = AV.c (Value.pointer none) := by kernel_rfl
@[simp] theorem tk_221 : tk Tryz.prog 221 = .fn := by kernel_rfl
@[simp] theorem tsz_221 : tsz Tryz.prog 221 = 1 := by kernel_rfl
@[simp] theorem tby_221 : tby Tryz.prog 221 = 8 := by kernel_rfl
@[simp] theorem az_221 : azero Tryz.prog 221 = AV.c Value.nilFunc := by kernel_rfl
@[simp] theorem tk_222 : tk Tryz.prog 222 = .fn := by kernel_rfl
@[simp] theorem tsz_222 : tsz Tryz.prog 222 = 1 := by kernel_rfl
@[simp] theorem tby_222 : tby Tryz.prog 222 = 8 := by kernel_rfl
@[simp] theorem az_222 : azero Tryz.prog 222 = AV.c Value.nilFunc := by kernel_rfl
@[simp] theorem tk_223 : tk Tryz.prog 223 = .ptr 210 := by kernel_rfl
@[simp] theorem tsz_223 : tsz Tryz.prog 223 = 1 := by kernel_rfl
@[simp] theorem tby_223 : tby Tryz.prog 223 = 8 := by kernel_rfl
@[simp] theorem az_223 : azero Tryz.prog 223 = AV.c (Value.pointer none) := by kernel_rfl
@[simp] theorem tk_224 : tk Tryz.prog 224 = .fn := by kernel_rfl
@[simp] theorem tsz_224 : tsz Tryz.prog 224 = 1 := by kernel_rfl
@[simp] theorem tby_224 : tby Tryz.prog 224 = 8 := by kernel_rfl
@[simp] theorem az_224 : azero Tryz.prog 224 = AV.c Value.nilFunc := by kernel_rfl
@[simp] theorem tk_225 : tk Tryz.prog 225 = .fn := by kernel_rfl
@[simp] theorem tsz_225 : tsz Tryz.prog 225 = 1 := by kernel_rfl
@[simp] theorem tby_225 : tby Tryz.prog 225 = 8 := by kernel_rfl
@[simp] theorem az_225 : azero Tryz.prog 225 = AV.c Value.nilFunc := by kernel_rfl
@[simp] theorem tk_226 : tk Tryz.prog 226 = .fn := by kernel_rfl
@[simp] theorem tsz_226 : tsz Tryz.prog 226 = 1 := by kernel_rfl
@[simp] theorem tby_226 : tby Tryz.prog 226 = 8 := by kernel_rfl
@[simp] theorem az_226 : azero Tryz.prog 226 = AV.c Value.nilFunc := by kernel_rfl
@[simp] theorem tk_227 : tk Tryz.prog 227 = .fn := by kernel_rfl
@[simp] theorem tsz_227 : tsz Tryz.prog 227 = 1 := by kernel_rfl
@[simp] theorem tby_227 : tby Tryz.prog 227 = 8 := by kernel_rfl
@[simp] theorem az_227 : azero Tryz.prog 227 = AV.c Value.nilFunc := by kernel_rfl
@[simp] theorem tk_228 : tk Tryz.prog 228 = .other := by kernel_rfl
@[simp] theorem tsz_228 : tsz Tryz.prog 228 = 1 := by kernel_rfl
@[simp] theorem tby_228 : tby Tryz.prog 228 = 8 := by kernel_rfl
@[simp] theorem az_228 : azero Tryz.prog 228 = AV.c (Value.pointer none) := by kernel_rfl
@[simp] theorem tk_229 : tk Tryz.prog 229 = .fn := by kernel_rfl
@[simp] theorem tsz_229 : tsz Tryz.prog 229 = 1 := by kernel_rfl
@[simp] theorem tby_229 : tby Tryz.prog 229 = 8 := by kernel_rfl
@[simp] theorem az_229 : azero Tryz.prog 229 = AV.c Value.nilFunc := by kernel_rfl
@[simp] theorem tk_230 : tk Tryz.prog 230 = .other := by kernel_rfl
@[simp] theorem tsz_230 : tsz Tryz.prog 230 = 1 := by kernel_rfl
@[simp] theorem tby_230 : tby Tryz.prog 230 = 0 := by kernel_rfl
@[simp] theorem az_230 : azero Tryz.prog 230 = AV.junk := by kernel_rfl
@[simp] theorem tk_231 : tk Tryz.prog 231 = .fn := by kernel_rfl
@[simp] theorem tsz_231 : tsz Tryz.prog 231 = 1 := by kernel_rfl
@[simp] theorem tby_231 : tby Tryz.prog 231 = 8 := by kernel_rfl
@[simp] theorem az_231 : azero Tryz.prog 231 = AV.c Value.nilFunc := by kernel_rfl
@[simp] theorem tk_232 : tk Tryz.prog 232 = .fn := by kernel_rfl
@[simp] theorem tsz_232 : tsz Tryz.prog 232 = 1 := by kernel_rfl
@[simp] theorem tby_232 : tby Tryz.prog 232 = 8 := by kernel_rfl
@[simp] theorem az_232 : azero Tryz.prog 232 = AV.c Value.nilFunc := by kernel_rfl
@[simp] theorem tk_233 : tk Tryz.prog 233 = .fn := by kernel_rfl
@[simp] theorem tsz_233 : tsz Tryz.prog 233 = 1 := by kernel_rfl
@[simp] theorem tby_233 : tby Tryz.prog 233 = 8 := by kernel_rfl
@[simp] theorem az_233 : azero Tryz.prog 233 = AV.c Value.nilFunc := by kernel_rfl
@[simp] theorem tk_234 : tk Tryz.prog 234 = .arr 24 5 := by kernel_rfl
@[simp] theorem tsz_234 : tsz Tryz.prog 234 = 24 := by kernel_rfl
@[simp] theorem tby_234 : tby Tryz.prog 234 = 24 := by kernel_rfl
@[simp] theorem az_234 : azero Tryz.prog 234 = AV.agg [AV.c (Value.int .u8 0), AV.c (Value.int .u8 0), AV.c (Value.int .u8 0), AV.c (Value.int .u8 0), AV.c (Value.int .u8 0), AV.c (Value.int .u8 0), AV.c (Value.int .u8 0), AV.c (Value.int .u8 0), AV.c (Value.int .u8 0), AV.c (Value.int .u8 0), AV.c (Value.int .u8 0), AV.c (Value.int .u8 0), AV.c (Value.int .u8 0), AV.c (Value.int .u8 0), AV.c (Value.int .u8 0), AV.c (Value.int .u8 0), AV.c (Value.int .u8 0), AV.c (Value.int .u8 0), AV.c (Value.int .u8 0), AV.c (Value.int .u8 0), AV.c (Value.int .u8 0), AV.c (Value.int .u8 0), AV.c (Value.int .u8 0), AV.c (Value.int .u8 0)] := by kernel_rfl
@[simp] theorem plc_234 : plc Tryz.prog 234 = some [(0, 1), (1, 1), (2, 1), (3, 1), (4, 1), (5, 1), (6, 1), (7, 1), (8, 1), (9, 1), (10, 1), (11, 1), (12, 1), (13, 1), (14, 1), (15, 1), (16, 1), (17, 1), (18, 1), (19, 1), (20, 1), (21, 1), (22, 1), (23, 1)] := by kernel_rfl
@[simp] theorem tk_235 : tk Tryz.prog 235 = .fn := by kernel_rfl
@[simp] theorem tsz_235 : tsz Tryz.prog 235 = 1 := by kernel_rfl
@[simp] theorem tby_235 : tby Tryz.prog 235 = 8 := by kernel_rfl
@[simp] theorem az_235 : azero Tryz.prog 235 = AV.c Value.nilFunc := by kernel_rfl
@[simp] theorem tk_236 : tk Tryz.prog 236 = .fn := by kernel_rfl
@[simp] theorem tsz_236 : tsz Tryz.prog 236 = 1 := by kernel_rfl
@[simp] theorem tby_236 : tby Tryz.prog 236 = 8 := by kernel_rfl
@[simp] theorem az_236 : azero Tryz.prog 236 = AV.c Value.nilFunc := by kernel_rfl
@[simp] theorem tk_237 : tk Tryz.prog 237 = .other := by kernel_rfl
@[simp] theorem tsz_237 : tsz Tryz.prog 237 = 1 := by kernel_rfl
@[simp] theorem tby_237 : tby Tryz.prog 237 = 0 := by kernel_rfl
@[simp] theorem az_237 : azero Tryz.prog 237 = AV.junk := by kernel_rfl
@[simp] theorem tk_238 : tk Tryz.prog 238 = .fn := by kernel_rfl
@[simp] theorem tsz_238 : tsz Tryz.prog 238 = 1 := by kernel_rfl
@[simp] theorem tby_238 : tby Tryz.prog 238 = 8 := by kernel_rfl
@[simp] theorem az_238 : azero Tryz.prog 238 = AV.c Value.nilFunc := by kernel_rfl
@[simp] theorem tk_239 : tk Tryz.prog 239 = .fn := by kernel_rfl
@[simp] theorem tsz_239 : tsz Tryz.prog 239 = 1 := by kernel_rfl
@[simp] theorem tby_239 : tby Tryz.prog 239 = 8 := by kernel_rfl
@[simp] theorem az_239 : azero Tryz.prog 239 = AV.c Value.nilFunc := by kernel_rfl
@[simp] theorem tk_240 : tk Tryz.prog 240 = .fn := by kernel_rfl
@[simp] theorem tsz_240 : tsz Tryz.prog 240 = 1 := by kernel_rfl
@[simp] theorem tby_240 : tby Tryz.prog 240 = 8 := by kernel_rfl
@[simp] theorem az_240 : azero Tryz.prog 240 = AV.c Value.nilFunc := by kernel_rfl
@[simp] theorem tk_241 : tk Tryz.prog 241 = .arr 20 217 := by kernel_rfl
@[simp] theorem tsz_241 : tsz Tryz.prog 241 = 20 := by kernel_rfl
@[simp] theorem tby_241 : tby Tryz.prog 241 = 160 := by kernel_rfl
@[simp] theorem az_241 : azero Tryz.prog 241 = AV.agg [AV.c (Value.int .u64 0), AV.c (Value.int .u64 0), AV.c (Value.int .u64 0), AV.c (Value.int .u64 0), AV.c (Value.int .u64 0), AV.c (Value.int .u64 0), AV.c (Value.int .u64 0), AV.c (Value.int .u64 0), AV.c (Value.int .u64 0), AV.c (Value.int .u64 0), AV.c (Value.int .u64 0), AV.c (Value.int .u64 0), AV.c (Value.int .u64 0), AV.c (Value.int .u64 0), AV.c (Value.int .u64 0), AV.c (Value.int .u64 0), AV.c (Value.int .u64 0), AV.c (Value.int .u64 0), AV.c (Value.int .u64 0), AV.c (Value.int .u64 0)] := by kernel_rfl
@[simp] theorem plc_241 : plc Tryz.prog 241 = some [(0, 1), (1, 1), (2, 1), (3, 1), (4, 1), (5, 1), (6, 1), (7, 1), (8, 1), (9, 1), (10, 1), (11, 1), (12, 1), (13, 1), (14, 1), (15, 1), (16, 1), (17, 1), (18, 1), (19, 1)] := by kernel_rfl
@[simp] theorem tk_242 : tk Tryz.prog 242 = .arr 65 5 := by kernel_rfl
@[simp] theorem tsz_242 : tsz Tryz.prog 242 = 65 := by kernel_rfl
@[simp] theorem tby_242 : tby Tryz.prog 242 = 65 := by kernel_rfl
@[simp] theorem az_242 : azero Tryz.prog 242 = AV.agg [AV.c (Value.int .u8 0), AV.c (Value.int .u8 0), AV.c (Value.int .u8 0), AV.c (Value.int .u8 0), AV.c (Value.int .u8 0), AV.c (Value.int .u8 0), AV.c (Value.int .u8 0), AV.c (Value.int .u8 0), AV.c (Value.int .u8 0), AV.c (Value.int .u8 0), AV.c (Value.int .u8 0), AV.c (Value.int .u8 0), AV.c (Value.int .u8 0), AV.c (Value.int .u8 0), AV.c (Value.int .u8 0), AV.c (Value.int .u8 0), AV.c (Value.int .u8 0), AV.c (Value.int .u8 0), AV.c (Value.int .u8 0), AV.c (Value.int .u8 0), AV.c (Value.int .u8 0), AV.c (Value.int .u8 0), AV.c (Value.int .u8 0), AV.c (Value.int .u8 0), AV.c (Value.int .u8 0), AV.c (Value.int .u8 0), AV.c (Value.int .u8 0), AV.c (Value.int .u8 0), AV.c (Value.int .u8 0), AV.c (Value.int .u8 0), AV.c (Value.int .u8 0), AV.c (Value.int .u8 0), AV.c (Value.int .u8 0), AV.c (Value.int .u8 0), AV.c (Value.int .u8 0), AV.c (Value.int .u8 0), AV.c (Value.int .u8 0), AV.c (Value.int .u8 0), AV.c (Value.int .u8 0), AV.c (Value.int .u8 0), AV.c (Value.int .u8 0), AV.c (Value.int .u8 0), AV.c (Value.int .u8 0), AV.c (Value.int .u8 0), AV.c (Value.int .u8 0), AV.c (Value.int .u8 0), AV.c (Value.int .u8 0), AV.c (Value.int .u8 0), AV.c (Value.int .u8 0), AV.c (Value.int .u8 0), AV.c (Value.int .u8 0), AV.c (Value.int .u8 0), AV.c (Value.int .u8 0), AV.c (Value.int .u8 0), AV.c (Value.int .u8 0), AV.c (Value.int .u8 0), AV.c (Value.int .u8 0), AV.c (Value.int .u8 0), AV.c (Value.int .u8 0), AV.c (Value.int .u8 0), AV.c (Value.int .u8 0), AV.c (Value.int .u8 0), AV.c (Value.int .u8 0), AV.c (Value.int .u8 0), AV.c (Value.int .u8 0)] := by kernel_rfl
@[simp] theorem plc_242 : plc Tryz.prog 242 = some [(0, 1), (1, 1), (2, 1), (3, 1), (4, 1), (5, 1), (6, 1), (7, 1), (8, 1), (9, 1), (10, 1), (11, 1), (12, 1), (13, 1), (14, 1), (15, 1), (16, 1), (17, 1), (18, 1), (19, 1), (20, 1), (21, 1), (22, 1), (23, 1), (24, 1), (25, 1), (26, 1), (27, 1), (28, 1), (29, 1), (30, 1), (31, 1), (32, 1), (33, 1), (34, 1), (35, 1), (36, 1), (37, 1), (38, 1), (39, 1), (40, 1), (41, 1), (42, 1), (43, 1), (44, 1), (45, 1), (46, 1), (47, 1), (48, 1), (49, 1), (50, 1), (51, 1), (52, 1), (53, 1), (54, 1), (55, 1), (56, 1), (57, 1), (58, 1), (59, 1), (60, 1), (61, 1), (62, 1), (63, 1), (64, 1)] := by kernel_rfl
@[simp] theorem tk_243 : tk Tryz.prog 243 = .fn := by kernel_rfl
@[simp] theorem tsz_243 : tsz Tryz.prog 243 = 1 := by kernel_rfl
@[simp] theorem tby_243 : tby Tryz.prog 243 = 8 := by kernel_rfl
@[simp] theorem az_243 : azero Tryz.prog 243 = AV.c Value.nilFunc := by kernel_rfl
@[simp] theorem tk_244 : tk Tryz.prog 244 = .fn := by kernel_rfl
@[simp] theorem tsz_244 : tsz Tryz.prog 244 = 1 := by kernel_rfl
@[simp] theorem tby_244 : tby Tryz.prog 244 = 8 := by kernel_rfl
@[simp] theorem az_244 : azero Tryz.prog 244 = AV.c Value.nilFunc := by kernel_rfl
@[simp] theorem tk_245 : tk Tryz.prog 245 = .arr 256 5 := by kernel_rfl
@[simp] theorem tsz_245 : tsz Tryz.prog 245 = 256 := by kernel_rfl
@[simp] theorem tby_245 : tby Tryz.prog 245 = 256 := by kernel_rfl
@[simp] theorem tk_246 : tk Tryz.prog 246 = .strct := by kernel_rfl
@[simp] theorem tsz_246 : tsz Tryz.prog 246 = 2 := by kernel_rfl
@[simp] theorem tby_246 : tby Tryz.prog 246 = 2 := by kernel_rfl
@[simp] theorem az_246 : azero Tryz.prog 246 = AV.agg [AV.c (Value.int .u8 0), AV.c (Value.int .u8 0)] := by kernel_rfl
@[simp] theorem plc_246 : plc Tryz.prog 246 = some [(0, 1), (1, 1)] := by kernel_rfl
@[simp] theorem tk_247 : tk Tryz.prog 247 = .strct := by kernel_rfl
@[simp] theorem tsz_247 : tsz Tryz.prog 247 = 2 := by kernel_rfl
@[simp] theorem tby_247 : tby Tryz.prog 247 = 2 := by kernel_rfl
@[simp] theorem az_247 : azero Tryz.prog 247 = AV.agg [AV.c (Value.int .u8 0), AV.c (Value.int .u8 0)] := by kernel_rfl
@[simp] theorem plc_247 : plc Tryz.prog 247 = some [(0, 1), (1, 1)] := by kernel_rfl
@[simp] theorem tk_248 : tk Tryz.prog 248 = .arr 16 247 := by kernel_rfl
@[simp] theorem tsz_248 : tsz Tryz.prog 248 = 32 := by kernel_rfl
@[simp] theorem tby_248 : tby Tryz.prog 248 = 32 := by kernel_rfl
@[simp] theorem az_248 : azero Tryz.prog 248 = AV.agg [AV.c (Value.int .u8 0), AV.c (Value.int .u8 0), AV.c (Value.int .u8 0), AV.c (Value.int .u8 0), AV.c (Value.int .u8 0), AV.c (Value.int .u8 0), AV.c (Value.int .u8 0), AV.c (Value.int .u8 0), AV.c (Value.int .u8 0), AV.c (Value.int .u8 0), AV.c (Value.int .u8 0), AV.c (Value.int .u8 0), AV.c (Value.int .u8 0), AV.c (Value.int .u8 0), AV.c (Value.int .u8 0), AV.c (Value.int .u8 0), AV.c (Value.int .u8 0), AV.c (Value.int .u8 0), AV.c (Value.int .u8 0), AV.c (Value.int .u8 0), AV.c (Value.int .u8 0), AV.c (Value.int .u8 0), AV.c (Value.int .u8 0), AV.c (Value.int .u8 0), AV.c (Value.int .u8 0), AV.c (Value.int .u8 0), AV.c (Value.int .u8 0), AV.c (Value.int .u8 0), AV.c (Value.int .u8 0), AV.c (Value.int .u8 0), AV.c (Value.int .u8 0), AV.c (Value.int .u8 0)] := by kernel_rfl
@[simp] theorem plc_248 : plc Tryz.prog 248 = some [(0, 2), (2, 2), (4, 2), (6, 2), (8, 2), (10, 2), (12, 2), (14, 2), (16, 2), (18, 2), (20, 2), (22, 2), (24, 2), (26, 2), (28, 2), (30, 2)] := by kernel_rfl
@[simp] theorem tk_249 : tk Tryz.prog 249 = .arr 32 5 := by kernel_rfl
@[simp] theorem tsz_249 : tsz Tryz.prog 249 = 32 := by kernel_rfl
@[simp] theorem tby_249 : tby Tryz.prog 249 = 32 := by kernel_rfl
@[simp] theorem az_249 : azero Tryz.prog 249 = AV.agg [AV.c (Value.int .u8 0), AV.c (Value.int .u8 0), AV.c (Value.int .u8 0), AV.c (Value.int .u8 0), AV.c (Value.int .u8 0), AV.c (Value.int .u8 0), AV.c (Value.int .u8 0), AV.c (Value.int .u8 0), AV.c (Value.int .u8 0), AV.c (Value.int .u8 0), AV.c (Value.int .u8 0), AV.c (Value.int .u8 0), AV.c (Value.int .u8 0), AV.c (Value.int .u8 0), AV.c (Value.int .u8 0), AV.c (Value.int .u8 0), AV.c (Value.int .u8 0), AV.c (Value.int .u8 0), AV.c (Value.int .u8 0), AV.c (Value.int .u8 0), AV.c (Value.int .u8 0), AV.c (Value.int .u8 0), AV.c (Value.int .u8 0), AV.c (Value.int .u8 0), AV.c (Value.int .u8 0), AV.c (Value.int .u8 0), AV.c (Value.int .u8 0), AV.c (Value.int .u8 0), AV.c (Value.int .u8 0), AV.c (Value.int .u8 0), AV.c (Value.int .u8 0), AV.c (Value.int .u8 0)] := by kernel_rfl
@[simp] theorem plc_249 : plc Tryz.prog 249 = some [(0, 1), (1, 1), (2, 1), (3, 1), (4, 1), (5, 1), (6, 1), (7, 1), (8, 1), (9, 1), (10, 1), (11, 1), (12, 1), (13, 1), (14, 1), (15, 1), (16, 1), (17, 1), (18, 1), (19, 1), (20, 1), (21, 1), (22, 1), (23, 1), (24, 1), (25, 1), (26, 1), (27, 1), (28, 1), (29, 1), (30, 1), (31, 1)] := by kernel_rfl
@[simp] theorem tk_250 : tk Tryz.prog 250 = .arr 64 5 := by kernel_rfl
@[simp] theorem tsz_250 : tsz Tryz.prog 250 = 64 := by kernel_rfl
@[simp] theorem tby_250 : tby Tryz.prog 250 = 64 := by kernel_rfl
@[simp] theorem az_250 : azero Tryz.prog 250 = AV.agg [AV.c (Value.int .u8 0), AV.c (Value.int .u8 0), AV.c (Value.int .u8 0), AV.c (Value.int .u8 0), AV.c (Value.int .u8 0), AV.c (Value.int .u8 0), AV.c (Value.int .u8 0), AV.c (Value.int .u8 0), AV.c (Value.int .u8 0), AV.c (Value.int .u8 0), AV.c (Value.int .u8 0), AV.c (Value.int .u8 0), AV.c (Value.int .u8 0), AV.c (Value.int .u8 0), AV.c (Value.int .u8 0), AV.c (Value.int .u8 0), AV.c (Value.int .u8 0), AV.c (Value.int .u8 0), AV.c (Value.int .u8 0), AV.c (Value.int .u8 0), AV.c (Value.int .u8 0), AV.c (Value.int .u8 0), AV.c (Value.int .u8 0), AV.c (Value.int .u8 0), AV.c (Value.int .u8 0), AV.c (Value.int .u8 0), AV.c (Value.int .u8 0), AV.c (Value.int .u8 0), AV.c (Value.int .u8 0), AV.c (Value.int .u8 0), AV.c (Value.int .u8 0), AV.c (Value.int .u8 0), AV.c (Value.int .u8 0), AV.c (Value.int .u8 0), AV.c (Value.int .u8 0), AV.c (Value.int .u8 0), AV.c (Value.int .u8 0), AV.c (Value.int .u8 0), AV.c (Value.int .u8 0), AV.c (Value.int .u8 0), AV.c (Value.int .u8 0), AV.c (Value.int .u8 0), AV.c (Value.int .u8 0), AV.c (Value.int .u8 0), AV.c (Value.int .u8 0), AV.c (Value.int .u8 0), AV.c (Value.int .u8 0), AV.c (Value.int .u8 0), AV.c (Value.int .u8 0), AV.c (Value.int .u8 0), AV.c (Value.int .u8 0), AV.c (Value.int .u8 0), AV.c (Value.int .u8 0), AV.c (Value.int .u8 0), AV.c (Value.int .u8 0), AV.c (Value.int .u8 0), AV.c (Value.int .u8 0), AV.c (Value.int .u8 0), AV.c (Value.int .u8 0), AV.c (Value.int .u8 0), AV.c (Value.int .u8 0), AV.c (Value.int .u8 0), AV.c (Value.int .u8 0), AV.c (Value.int .u8 0)] := by kernel_rfl
@[simp] theorem plc_250 : plc Tryz.prog 250 = some [(0, 1), (1, 1), (2, 1), (3, 1), (4, 1), (5, 1), (6, 1), (7, 1), (8, 1), (9, 1), (10, 1), (11, 1), (12, 1), (13, 1), (14, 1), (15, 1), (16, 1), (17, 1), (18, 1), (19, 1), (20, 1), (21, 1), (22, 1), (23, 1), (24, 1), (25, 1), (26, 1), (27, 1), (28, 1), (29, 1), (30, 1), (31, 1), (32, 1), (33, 1), (34, 1), (35, 1), (36, 1), (37, 1), (38, 1), (39, 1), (40, 1), (41, 1), (42, 1), (43, 1), (44, 1), (45, 1), (46, 1), (47, 1), (48, 1), (49, 1), (50, 1), (51, 1), (52, 1), (53, 1), (54, 1), (55, 1), (56, 1), (57, 1), (58, 1), (59, 1), (60, 1), (61, 1), (62, 1), (63, 1)] := by kernel_rfl
@[simp] theorem tk_251 : tk Tryz.prog 251 = .strct := by kernel_rfl
@[simp] theorem tsz_251 : tsz Tryz.prog 251 = 4 := by kernel_rfl
@[simp] theorem tby_251 : tby Tryz.prog 251 = 40 := by kernel_rfl
@[simp] theorem az_251 : azero Tryz.prog 251 = AV.agg [AV.c (Value.pointer none), AV.c (Value.pointer none), AV.c (Value.pointer none), AV.c (Value.string (⟨#[]⟩ : ByteArray))] := by kernel_rfl
@[simp] theorem plc_251 : plc Tryz.prog 251 = some [(0, 1), (1, 1), (2, 1), (3, 1)] := by kernel_rfl
@[simp] theorem tk_252 : tk Tryz.prog 252 = .strct := by kernel_rfl
@[simp] theorem tsz_252 : tsz Tryz.prog 252 = 4 := by kernel_rfl
@[simp] theorem tby_252 : tby Tryz.prog 252 = 40 := by kernel_rfl
@[simp] theorem az_252 : azero Tryz.prog 252 = AV.agg [AV.c (Value.pointer none), AV.c (Value.pointer none), AV.c (Value.pointer none), AV.c (Value.string (⟨#[]⟩ : ByteArray))] := by kernel_rfl
@[simp] theorem plc_252 : plc Tryz.prog 252 = some [(0, 1), (1, 1), (2, 1), (3, 1)] := by kernel_rfl
@[simp] theorem tk_253 : tk Tryz.prog 253 = .arr 0 16 := by kernel_rfl
@[simp] theorem tsz_253 : tsz Tryz.prog 253 = 0 := by kernel_rfl
@[simp] theorem tby_253 : tby Tryz.prog 253 = 0 := by kernel_rfl
@[simp] theorem az_253 : azero Tryz.prog 253 = AV.agg [] := by kernel_rfl
@[simp] theorem plc_253 : plc Tryz.prog 253 = some [] := by kernel_rfl
@[simp] theorem tk_254 : tk Tryz.prog 254 = .strct := by kernel_rfl
@[simp] theorem tsz_254 : tsz Tryz.prog 254 = 0 := by kernel_rfl
@[simp] theorem tby_254 : tby Tryz.prog 254 = 0 := by kernel_rfl
@[simp] theorem az_254 : azero Tryz.prog 254 = AV.agg [] := by kernel_rfl
@[simp] theorem plc_254 : plc Tryz.prog 254 = some [(0, 0)] := by kernel_rfl
@[simp] theorem tk_255 : tk Tryz.prog 255 = .strct := by kernel_rfl
@[simp] theorem tsz_255 : tsz Tryz.prog 255 = 0 := by kernel_rfl
@[simp] theorem tby_255 : tby Tryz.prog 255 = 0 := by kernel_rfl
@[simp] theorem az_255 : azero Tryz.prog 255 = AV.agg [] := by kernel_rfl
@[simp] theorem plc_255 : plc Tryz.prog 255 = some [(0, 0)] := by kernel_rfl
@[simp] theorem tk_256 : tk Tryz.prog 256 = .int .u8 := by kernel_rfl
@[simp] theorem tsz_256 : tsz Tryz.prog 256 = 1 := by kernel_rfl
@[simp] theorem tby_256 : tby Tryz.prog 256 = 1 := by kernel_rfl
@[simp] theorem az_256 : azero Tryz.prog 256 = AV.c (Value.int .u8 0) := by kernel_rfl
@[simp] theorem tk_257 : tk Tryz.prog 257 = .int .u8 := by kernel_rfl
@[simp] theorem tsz_257 : tsz Tryz.prog 257 = 1 := by kernel_rfl
@[simp] theorem tby_257 : tby Tryz.prog 257 = 1 := by kernel_rfl
@[simp] theorem az_257 : azero Tryz.prog 257 = AV.c (Value.int .u8 0) := by kernel_rfl
@[simp] theorem tk_258 : tk Tryz.prog 258 = .fn := by kernel_rfl
@[simp] theorem tsz_258 : tsz Tryz.prog 258 = 1 := by kernel_rfl
@[simp] theorem tby_258 : tby Tryz.prog 258 = 8 := by kernel_rfl
@[simp] theorem az_258 : azero Tryz.prog 258 = AV.c Value.nilFunc := by kernel_rfl
@[simp] theorem tk_259 : tk Tryz.prog 259 = .int .i32 := by kernel_rfl
@[simp] theorem tsz_259 : tsz Tryz.prog 259 = 1 := by kernel_rfl
@[simp] theorem tby_259 : tby Tryz.prog 259 = 4 := by kernel_rfl
@[simp] theorem az_259 : azero Tryz.prog 259 = AV.c (Value.int .i32 0) := by kernel_rfl
@[simp] theorem tk_260 : tk Tryz.prog 260 = .int .i32 := by kernel_rfl
@[simp] theorem tsz_260 : tsz Tryz.prog 260 = 1 := by kernel_rfl
@[simp] theorem tby_260 : tby Tryz.prog 260 = 4 := by kernel_rfl
@[simp] theorem az_260 : azero Tryz.prog 260 = AV.c (Value.int .i32 0) := by kernel_rfl
@[simp] theorem tk_261 : tk Tryz.prog 261 = .strct := by kernel_rfl
@[simp] theorem tsz_261 : tsz Tryz.prog 261 = 11 := by kernel_rfl
@[simp] theorem tby_261 : tby Tryz.prog 261 = 48 := by kernel_rfl
@[simp] theorem az_261 : azero Tryz.prog 261 = AV.agg [AV.c (Value.int .u64 0), AV.c (Value.int .u64 0), AV.c (Value.int .u32 0), AV.c (Value.int .u8 0), AV.c (Value.int .u8 0), AV.c (Value.int .u8 0), AV.c (Value.int .u8 0), AV.c Value.nilFunc, AV.c (Value.pointer none), AV.c (Value.int .i32 0), AV.c (Value.int .i32 0)] := by kernel_rfl
@[simp] theorem plc_261 : plc Tryz.prog 261 = some [(0, 1), (1, 1), (2, 1), (3, 1), (4, 1), (5, 1), (6, 1), (7, 1), (8, 1), (9, 1), (10, 1)] := by kernel_rfl
@[simp] theorem tk_262 : tk Tryz.prog 262 = .strct := by kernel_rfl
@[simp] theorem tsz_262 : tsz Tryz.prog 262 = 11 := by kernel_rfl
@[simp] theorem tby_262 : tby Tryz.prog 262 = 48 := by kernel_rfl
@[simp] theorem az_262 : azero Tryz.prog 262 = AV.agg [AV.c (Value.int .u64 0), AV.c (Value.int .u64 0), AV.c (Value.int .u32 0), AV.c (Value.int .u8 0), AV.c (Value.int .u8 0), AV.c (Value.int .u8 0), AV.c (Value.int .u8 0), AV.c Value.nilFunc, AV.c (Value.pointer none), AV.c (Value.int .i32 0), AV.c (Value.int .i32 0)] := by kernel_rfl
@[simp] theorem plc_262 : plc Tryz.prog 262 = some [(0, 1), (1, 1), (2, 1), (3, 1), (4, 1), (5, 1), (6, 1), (7, 1), (8, 1), (9, 1), (10, 1)] := by kernel_rfl
@[simp] theorem fld_7_0 : fld Tryz.prog 7 0 = some (0, 2) := by kernel_rfl
@[simp] theorem fld_7_1 : fld Tryz.prog 7 1 = some (1, 3) := by kernel_rfl
@[simp] theorem fld_7_2 : fld Tryz.prog 7 2 = some (2, 4) := by kernel_rfl
@[simp] theorem fld_7_3 : fld Tryz.prog 7 3 = some (3, 6) := by kernel_rfl
@[simp] theorem fld_8_0 : fld Tryz.prog 8 0 = some (0, 2) := by kernel_rfl
@[simp] theorem fld_8_1 : fld Tryz.prog 8 1 = some (1, 3) := by kernel_rfl
@[simp] theorem fld_8_2 : fld Tryz.prog 8 2 = some (2, 4) := by kernel_rfl
@[simp] theorem fld_8_3 : fld Tryz.prog 8 3 = some (3, 6) := by kernel_rfl
@[simp] theorem fld_13_0 : fld Tryz.prog 13 0 = some (0, 9) := by kernel_rfl
@[simp] theorem fld_13_1 : fld Tryz.prog 13 1 = some (1, 12) := by kernel_rfl
@[simp] theorem fld_14_0 : fld Tryz.prog 14 0 = some (0, 9) := by kernel_rfl
@[simp] theorem fld_14_1 : fld Tryz.prog 14 1 = some (1, 12) := by kernel_rfl
@[simp] theorem fld_18_0 : fld Tryz.prog 18 0 = some (0, 17) := by kernel_rfl
@[simp] theorem fld_19_0 : fld Tryz.prog 19 0 = some (0, 17) := by kernel_rfl
@[simp] theorem fld_43_0 : fld Tryz.prog 43 0 = some (0, 9) := by kernel_rfl
@[simp] theorem fld_43_1 : fld Tryz.prog 43 1 = some (1, 3) := by kernel_rfl
@[simp] theorem fld_44_0 : fld Tryz.prog 44 0 = some (0, 9) := by kernel_rfl
@[simp] theorem fld_44_1 : fld Tryz.prog 44 1 = some (1, 3) := by kernel_rfl
@[simp] theorem fld_45_0 : fld Tryz.prog 45 0 = some (0, 9) := by kernel_rfl
@[simp] theorem fld_45_1 : fld Tryz.prog 45 1 = some (1, 3) := by kernel_rfl
@[simp] theorem fld_45_2 : fld Tryz.prog 45 2 = some (2, 3) := by kernel_rfl
@[simp] theorem fld_45_3 : fld Tryz.prog 45 3 = some (3, 3) := by kernel_rfl
@[simp] theorem fld_45_4 : fld Tryz.prog 45 4 = some (4, 3) := by kernel_rfl
@[simp] theorem fld_45_5 : fld Tryz.prog 45 5 = some (5, 23) := by kernel_rfl
@[simp] theorem fld_46_0 : fld Tryz.prog 46 0 = some (0, 9) := by kernel_rfl
@[simp] theorem fld_46_1 : fld Tryz.prog 46 1 = some (1, 3) := by kernel_rfl
@[simp] theorem fld_46_2 : fld Tryz.prog 46 2 = some (2, 3) := by kernel_rfl
@[simp] theorem fld_46_3 : fld Tryz.prog 46 3 = some (3, 3) := by kernel_rfl
@[simp] theorem fld_46_4 : fld Tryz.prog 46 4 = some (4, 3) := by kernel_rfl
@[simp] theorem fld_46_5 : fld Tryz.prog 46 5 = some (5, 23) := by kernel_rfl
@[simp] theorem fld_53_0 : fld Tryz.prog 53 0 = some (0, 4) := by kernel_rfl
@[simp] theorem fld_53_1 : fld Tryz.prog 53 1 = some (1, 23) := by kernel_rfl
@[simp] theorem fld_53_2 : fld Tryz.prog 53 2 = some (2, 22) := by kernel_rfl
@[simp] theorem fld_53_3 : fld Tryz.prog 53 3 = some (3, 27) := by kernel_rfl
@[simp] theorem fld_54_0 : fld Tryz.prog 54 0 = some (0, 4) := by kernel_rfl
@[simp] theorem fld_54_1 : fld Tryz.prog 54 1 = some (1, 23) := by kernel_rfl
@[simp] theorem fld_54_2 : fld Tryz.prog 54 2 = some (2, 22) := by kernel_rfl
@[simp] theorem fld_54_3 : fld Tryz.prog 54 3 = some (3, 27) := by kernel_rfl
@[simp] theorem fld_60_0 : fld Tryz.prog 60 0 = some (0, 4) := by kernel_rfl
@[simp] theorem fld_60_1 : fld Tryz.prog 60 1 = some (1, 23) := by kernel_rfl
@[simp] theorem fld_60_2 : fld Tryz.prog 60 2 = some (2, 22) := by kernel_rfl
@[simp] theorem fld_60_3 : fld Tryz.prog 60 3 = some (3, 27) := by kernel_rfl
@[simp] theorem fld_67_0 : fld Tryz.prog 67 0 = some (0, 9) := by kernel_rfl
@[simp] theorem fld_67_1 : fld Tryz.prog 67 1 = some (1, 3) := by kernel_rfl
@[simp] theorem fld_67_2 : fld Tryz.prog 67 2 = some (2, 3) := by kernel_rfl
@[simp] theorem fld_67_3 : fld Tryz.prog 67 3 = some (3, 3) := by kernel_rfl
@[simp] theorem fld_68_0 : fld Tryz.prog 68 0 = some (0, 9) := by kernel_rfl
@[simp] theorem fld_68_1 : fld Tryz.prog 68 1 = some (1, 3) := by kernel_rfl
@[simp] theorem fld_68_2 : fld Tryz.prog 68 2 = some (2, 3) := by kernel_rfl
@[simp] theorem fld_68_3 : fld Tryz.prog 68 3 = some (3, 3) := by kernel_rfl
@[simp] theorem fld_70_0 : fld Tryz.prog 70 0 = some (0, 69) := by kernel_rfl
@[simp] theorem fld_70_1 : fld Tryz.prog 70 1 = some (1, 23) := by kernel_rfl
@[simp] theorem fld_71_0 : fld Tryz.prog 71 0 = some (0, 69) := by kernel_rfl
@[simp] theorem fld_71_1 : fld Tryz.prog 71 1 = some (1, 23) := by kernel_rfl
@[simp] theorem fld_93_0 : fld Tryz.prog 93 0 = some (0, 23) := by kernel_rfl
@[simp] theorem fld_93_1 : fld Tryz.prog 93 1 = some (1, 30) := by kernel_rfl
@[simp] theorem fld_94_0 : fld Tryz.prog 94 0 = some (0, 23) := by kernel_rfl
@[simp] theorem fld_94_1 : fld Tryz.prog 94 1 = some (1, 30) := by kernel_rfl
@[simp] theorem fld_99_0 : fld Tryz.prog 99 0 = some (0, 9) := by kernel_rfl
@[simp] theorem fld_99_1 : fld Tryz.prog 99 1 = some (1, 3) := by kernel_rfl
@[simp] theorem fld_99_2 : fld Tryz.prog 99 2 = some (2, 3) := by kernel_rfl
@[simp] theorem fld_99_3 : fld Tryz.prog 99 3 = some (3, 3) := by kernel_rfl
@[simp] theorem fld_99_4 : fld Tryz.prog 99 4 = some (4, 3) := by kernel_rfl
@[simp] theorem fld_99_5 : fld Tryz.prog 99 5 = some (5, 3) := by kernel_rfl
@[simp] theorem fld_100_0 : fld Tryz.prog 100 0 = some (0, 9) := by kernel_rfl
@[simp] theorem fld_100_1 : fld Tryz.prog 100 1 = some (1, 3) := by kernel_rfl
@[simp] theorem fld_100_2 : fld Tryz.prog 100 2 = some (2, 3) := by kernel_rfl
@[simp] theorem fld_100_3 : fld Tryz.prog 100 3 = some (3, 3) := by kernel_rfl
@[simp] theorem fld_100_4 : fld Tryz.prog 100 4 = some (4, 3) := by kernel_rfl
@[simp] theorem fld_100_5 : fld Tryz.prog 100 5 = some (5, 3) := by kernel_rfl
@[simp] theorem fld_101_0 : fld Tryz.prog 101 0 = some (0, 54) := by kernel_rfl
@[simp] theorem fld_101_1 : fld Tryz.prog 101 1 = some (4, 23) := by kernel_rfl
@[simp] theorem fld_101_2 : fld Tryz.prog 101 2 = some (5, 4) := by kernel_rfl
@[simp] theorem fld_102_0 : fld Tryz.prog 102 0 = some (0, 54) := by kernel_rfl
@[simp] theorem fld_102_1 : fld Tryz.prog 102 1 = some (4, 23) := by kernel_rfl
@[simp] theorem fld_102_2 : fld Tryz.prog 102 2 = some (5, 4) := by kernel_rfl
@[simp] theorem fld_106_0 : fld Tryz.prog 106 0 = some (0, 9) := by kernel_rfl
@[simp] theorem fld_106_1 : fld Tryz.prog 106 1 = some (1, 3) := by kernel_rfl
@[simp] theorem fld_106_2 : fld Tryz.prog 106 2 = some (2, 3) := by kernel_rfl
@[simp] theorem fld_106_3 : fld Tryz.prog 106 3 = some (3, 3) := by kernel_rfl
@[simp] theorem fld_106_4 : fld Tryz.prog 106 4 = some (4, 3) := by kernel_rfl
@[simp] theorem fld_106_5 : fld Tryz.prog 106 5 = some (5, 3) := by kernel_rfl
@[simp] theorem fld_107_0 : fld Tryz.prog 107 0 = some (0, 106) := by kernel_rfl
@[simp] theorem fld_107_1 : fld Tryz.prog 107 1 = some (6, 23) := by kernel_rfl
@[simp] theorem fld_107_2 : fld Tryz.prog 107 2 = some (7, 30) := by kernel_rfl
@[simp] theorem fld_108_0 : fld Tryz.prog 108 0 = some (0, 106) := by kernel_rfl
@[simp] theorem fld_108_1 : fld Tryz.prog 108 1 = some (6, 23) := by kernel_rfl
@[simp] theorem fld_108_2 : fld Tryz.prog 108 2 = some (7, 30) := by kernel_rfl
@[simp] theorem fld_136_0 : fld Tryz.prog 136 0 = some (0, 30) := by kernel_rfl
@[simp] theorem fld_137_0 : fld Tryz.prog 137 0 = some (0, 30) := by kernel_rfl
@[simp] theorem fld_140_0 : fld Tryz.prog 140 0 = some (0, 23) := by kernel_rfl
@[simp] theorem fld_141_0 : fld Tryz.prog 141 0 = some (0, 23) := by kernel_rfl
@[simp] theorem fld_176_0 : fld Tryz.prog 176 0 = some (0, 3) := by kernel_rfl
@[simp] theorem fld_176_1 : fld Tryz.prog 176 1 = some (1, 3) := by kernel_rfl
@[simp] theorem fld_176_2 : fld Tryz.prog 176 2 = some (2, 4) := by kernel_rfl
@[simp] theorem fld_176_3 : fld Tryz.prog 176 3 = some (3, 175) := by kernel_rfl
@[simp] theorem fld_177_0 : fld Tryz.prog 177 0 = some (0, 3) := by kernel_rfl
@[simp] theorem fld_177_1 : fld Tryz.prog 177 1 = some (1, 3) := by kernel_rfl
@[simp] theorem fld_177_2 : fld Tryz.prog 177 2 = some (2, 4) := by kernel_rfl
@[simp] theorem fld_177_3 : fld Tryz.prog 177 3 = some (3, 175) := by kernel_rfl
@[simp] theorem fld_195_0 : fld Tryz.prog 195 0 = some (0, 194) := by kernel_rfl
@[simp] theorem fld_195_1 : fld Tryz.prog 195 1 = some (1, 23) := by kernel_rfl
@[simp] theorem fld_196_0 : fld Tryz.prog 196 0 = some (0, 194) := by kernel_rfl
@[simp] theorem fld_196_1 : fld Tryz.prog 196 1 = some (1, 23) := by kernel_rfl
@[simp] theorem fld_246_0 : fld Tryz.prog 246 0 = some (0, 5) := by kernel_rfl
@[simp] theorem fld_246_1 : fld Tryz.prog 246 1 = some (1, 5) := by kernel_rfl
@[simp] theorem fld_247_0 : fld Tryz.prog 247 0 = some (0, 5) := by kernel_rfl
@[simp] theorem fld_247_1 : fld Tryz.prog 247 1 = some (1, 5) := by kernel_rfl
@[simp] theorem fld_251_0 : fld Tryz.prog 251 0 = some (0, 17) := by kernel_rfl
@[simp] theorem fld_251_1 : fld Tryz.prog 251 1 = some (1, 17) := by kernel_rfl
@[simp] theorem fld_251_2 : fld Tryz.prog 251 2 = some (2, 17) := by kernel_rfl
@[simp] theorem fld_251_3 : fld Tryz.prog 251 3 = some (3, 9) := by kernel_rfl
@[simp] theorem fld_252_0 : fld Tryz.prog 252 0 = some (0, 17) := by kernel_rfl
@[simp] theorem fld_252_1 : fld Tryz.prog 252 1 = some (1, 17) := by kernel_rfl
@[simp] theorem fld_252_2 : fld Tryz.prog 252 2 = some (2, 17) := by kernel_rfl
@[simp] theorem fld_252_3 : fld Tryz.prog 252 3 = some (3, 9) := by kernel_rfl
@[simp] theorem fld_254_0 : fld Tryz.prog 254 0 = none := by kernel_rfl
@[simp] theorem fld_255_0 : fld Tryz.prog 255 0 = none := by kernel_rfl
@[simp] theorem fld_261_0 : fld Tryz.prog 261 0 = some (0, 12) := by kernel_rfl
@[simp] theorem fld_261_1 : fld Tryz.prog 261 1 = some (1, 12) := by kernel_rfl
@[simp] theorem fld_261_2 : fld Tryz.prog 261 2 = some (2, 214) := by kernel_rfl
@[simp] theorem fld_261_3 : fld Tryz.prog 261 3 = some (3, 256) := by kernel_rfl
@[simp] theorem fld_261_4 : fld Tryz.prog 261 4 = some (4, 5) := by kernel_rfl
@[simp] theorem fld_261_5 : fld Tryz.prog 261 5 = some (5, 5) := by kernel_rfl
@[simp] theorem fld_261_6 : fld Tryz.prog 261 6 = some (6, 257) := by kernel_rfl
@[simp] theorem fld_261_7 : fld Tryz.prog 261 7 = some (7, 258) := by kernel_rfl
@[simp] theorem fld_261_8 : fld Tryz.prog 261 8 = some (8, 220) := by kernel_rfl
@[simp] theorem fld_261_9 : fld Tryz.prog 261 9 = some (9, 259) := by kernel_rfl
@[simp] theorem fld_261_10 : fld Tryz.prog 261 10 = some (10, 260) := by kernel_rfl
@[simp] theorem fld_262_0 : fld Tryz.prog 262 0 = some (0, 12) := by kernel_rfl
@[simp] theorem fld_262_1 : fld Tryz.prog 262 1 = some (1, 12) := by kernel_rfl
@[simp] theorem fld_262_2 : fld Tryz.prog 262 2 = some (2, 214) := by kernel_rfl
@[simp] theorem fld_262_3 : fld Tryz.prog 262 3 = some (3, 256) := by kernel_rfl
@[simp] theorem fld_262_4 : fld Tryz.prog 262 4 = some (4, 5) := by kernel_rfl
@[simp] theorem fld_262_5 : fld Tryz.prog 262 5 = some (5, 5) := by kernel_rfl
@[simp] theorem fld_262_6 : fld Tryz.prog 262 6 = some (6, 257) := by kernel_rfl
@[simp] theorem fld_262_7 : fld Tryz.prog 262 7 = some (7, 258) := by kernel_rfl
@[simp] theorem fld_262_8 : fld Tryz.prog 262 8 = some (8, 220) := by kernel_rfl
@[simp] theorem fld_262_9 : fld Tryz.prog 262 9 = some (9, 259) := by kernel_rfl
@[simp] theorem fld_262_10 : fld Tryz.prog 262 10 = some (10, 260) := by kernel_rfl
@[simp] theorem callable_3 : callable Tryz.prog 3 = true := by kernel_rfl
@[simp] theorem callable_4 : callable Tryz.prog 4 = true := by kernel_rfl
@[simp] theorem callable_5 : callable Tryz.prog 5 = true := by kernel_rfl
@[simp] theorem callable_6 : callable Tryz.prog 6 = true := by kernel_rfl
@[simp] theorem callable_7 : callable Tryz.prog 7 = true := by kernel_rfl
@[simp] theorem callable_8 : callable Tryz.prog 8 = true := by kernel_rfl
@[simp] theorem callable_9 : callable Tryz.prog 9 = true := by kernel_rfl
@[simp] theorem callable_10 : callable Tryz.prog 10 = true := by kernel_rfl
@[simp] theorem callable_11 : callable Tryz.prog 11 = true := by kernel_rfl
@[simp] theorem callable_12 : callable Tryz.prog 12 = true := by kernel_rfl
@[simp] theorem callable_13 : callable Tryz.prog 13 = true := by kernel_rfl
@[simp] theorem callable_14 : callable Tryz.prog 14 = true := by kernel_rfl
@[simp] theorem callable_15 : callable Tryz.prog 15 = true := by kernel_rfl
@[simp] theorem callable_16 : callable Tryz.prog 16 = true := by kernel_rfl
@[simp] theorem callable_17 : callable Tryz.prog 17 = true := by kernel_rfl
@[simp] theorem callable_18 : callable Tryz.prog 18 = true := by kernel_rfl
@[simp] theorem callable_19 : callable Tryz.prog 19 = true := by kernel_rfl
@[simp] theorem callable_20 : callable Tryz.prog 20 = true := by kernel_rfl
@[simp] theorem callable_21 : callable Tryz.prog 21 = true := by kernel_rfl
@[simp] theorem callable_22 : callable Tryz.prog 22 = true := by kernel_rfl
@[simp] theorem callable_23 : callable Tryz.prog 23 = true := by kernel_rfl
@[simp] theorem callable_24 : callable Tryz.prog 24 = true := by kernel_rfl
@[simp] theorem callable_25 : callable Tryz.prog 25 = true := by kernel_rfl
@[simp] theorem callable_26 : callable Tryz.prog 26 = true := by kernel_rfl
@[simp] theorem callable_27 : callable Tryz.prog 27 = true := by kernel_rfl
@[simp] theorem callable_28 : callable Tryz.prog 28 = true := by kernel_rfl
@[simp] theorem callable_29 : callable Tryz.prog 29 = true := by kernel_rfl
@[simp] theorem callable_30 : callable Tryz.prog 30 = true := by kernel_rfl
@[simp] theorem callable_31 : callable Tryz.prog 31 = true := by kernel_rfl
@[simp] theorem callable_32 : callable Tryz.prog 32 = true := by kernel_rfl
@[simp] theorem callable_33 : callable Tryz.prog 33 = true := by kernel_rfl
@[simp] theorem callable_34 : callable Tryz.prog 34 = true := by kernel_rfl
@[simp] theorem callable_35 : callable Tryz.prog 35 = true := by kernel_rfl
@[simp] theorem callable_36 : callable Tryz.prog 36 = true := by kernel_rfl
@[simp] theorem callable_37 : callable Tryz.prog 37 = true := by kernel_rfl
@[simp] theorem callable_38 : callable Tryz.prog 38 = true := by kernel_rfl
@[simp] theorem callable_39 : callable Tryz.prog 39 = true := by kernel_rfl
@[simp] theorem callable_40 : callable Tryz.prog 40 = true := by kernel_rfl
@[simp] theorem callable_41 : callable Tryz.prog 41 = true := by kernel_rfl
@[simp] theorem callable_42 : callable Tryz.prog 42 = true := by kernel_rfl
@[simp] theorem callable_43 : callable Tryz.prog 43 = true := by kernel_rfl
@[simp] theorem callable_44 : callable Tryz.prog 44 = true := by kernel_rfl
@[simp] theorem callable_45 : callable Tryz.prog 45 = true := by kernel_rfl
@[simp] theorem callable_46 : callable Tryz.prog 46 = true := by kernel_rfl
@[simp] theorem callable_47 : callable Tryz.prog 47 = true := by kernel_rfl
@[simp] theorem callable_48 : callable Tryz.prog 48 = true := by kernel_rfl
@[simp] theorem callable_49 : callable Tryz.prog 49 = true := by kernel_rfl
@[simp] theorem callable_50 : callable Tryz.prog 50 = true := by kernel_rfl
@[simp] theorem callable_51 : callable Tryz.prog 51 = true := by kernel_rfl
@[simp] theorem callable_52 : callable Tryz.prog 52 = true := by kernel_rfl
@[simp] theorem callable_53 : callable Tryz.prog 53 = true := by kernel_rfl
@[simp] theorem callable_54 : callable Tryz.prog 54 = true := by kernel_rfl
@[simp] theorem callable_55 : callable Tryz.prog 55 = true := by kernel_rfl
@[simp] theorem callable_56 : callable Tryz.prog 56 = true := by kernel_rfl
@[simp] theorem callable_57 : callable Tryz.prog 57 = true := by kernel_rfl
@[simp] theorem callable_58 : callable Tryz.prog 58 = true := by kernel_rfl
@[simp] theorem callable_59 : callable Tryz.prog 59 = true := by kernel_rfl
@[simp] theorem callable_60 : callable Tryz.prog 60 = true := by kernel_rfl
@[simp] theorem callable_61 : callable Tryz.prog 61 = true := by kernel_rfl
@[simp] theorem callable_62 : callable Tryz.prog 62 = true := by kernel_rfl
@[simp] theorem callable_63 : callable Tryz.prog 63 = true := by kernel_rfl
@[simp] theorem callable_64 : callable Tryz.prog 64 = true := by kernel_rfl
@[simp] theorem callable_65 : callable Tryz.prog 65 = true := by kernel_rfl
@[simp] theorem callable_66 : callable Tryz.prog 66 = true := by kernel_rfl
@[simp] theorem callable_67 : callable Tryz.prog 67 = true := by kernel_rfl
@[simp] theorem callable_68 : callable Tryz.prog 68 = true := by kernel_rfl
@[simp] theorem callable_69 : callable Tryz.prog 69 = true := by kernel_rfl
@[simp] theorem callable_70 : callable Tryz.prog 70 = true := by kernel_rfl
@[simp] theorem callable_71 : callable Tryz.prog 71 = true := by kernel_rfl
@[simp] theorem callable_72 : callable Tryz.prog 72 = true := by kernel_rfl
@[simp] theorem callable_73 : callable Tryz.prog 73 = true := by kernel_rfl
@[simp] theorem callable_74 : callable Tryz.prog 74 = true := by kernel_rfl
@[simp] theorem callable_75 : callable Tryz.prog 75 = true := by kernel_rfl
@[simp] theorem callable_76 : callable Tryz.prog 76 = true := by kernel_rfl
@[simp] theorem callable_77 : callable Tryz.prog 77 = true := by kernel_rfl
@[simp] theorem callable_78 : callable Tryz.prog 78 = true := by kernel_rfl
@[simp] theorem callable_79 : callable Tryz.prog 79 = true := by kernel_rfl
@[simp] theorem callable_80 : callable Tryz.prog 80 = true := by kernel_rfl
@[simp] theorem callable_81 : callable Tryz.prog 81 = true := by kernel_rfl
@[simp] theorem callable_82 : callable Tryz.prog 82 = true := by kernel_rfl
@[simp] theorem callable_83 : callable Tryz.prog 83 = true := by kernel_rfl
@[simp] theorem callable_84 : callable Tryz.prog 84 = true := by kernel_rfl
@[simp] theorem callable_85 : callable Tryz.prog 85 = true := by kernel_rfl
@[simp] theorem callable_86 : callable Tryz.prog 86 = true := by kernel_rfl
@[simp] theorem callable_87 : callable Tryz.prog 87 = true := by kernel_rfl
@[simp] theorem callable_88 : callable Tryz.prog 88 = true := by kernel_rfl
@[simp] theorem callable_89 : callable Tryz.prog 89 = true := by kernel_rfl
@[simp] theorem callable_90 : callable Tryz.prog 90 = true := by kernel_rfl
@[simp] theorem callable_91 : callable Tryz.prog 91 = true := by kernel_rfl
@[simp] theorem callable_92 : callable Tryz.prog 92 = true := by kernel_rfl
@[simp] theorem callable_93 : callable Tryz.prog 93 = true := by kernel_rfl
@[simp] theorem callable_94 : callable Tryz.prog 94 = true := by kernel_rfl
@[simp] theorem callable_95 : callable Tryz.prog 95 = true := by kernel_rfl
@[simp] theorem callable_96 : callable Tryz.prog 96 = true := by kernel_rfl
@[simp] theorem callable_97 : callable Tryz.prog 97 = true := by kernel_rfl
@[simp] theorem callable_98 : callable Tryz.prog 98 = true := by kernel_rfl
@[simp] theorem callable_99 : callable Tryz.prog 99 = true := by kernel_rfl
@[simp] theorem callable_100 : callable Tryz.prog 100 = true := by kernel_rfl
@[simp] theorem callable_101 : callable Tryz.prog 101 = true := by kernel_rfl
@[simp] theorem callable_102 : callable Tryz.prog 102 = true := by kernel_rfl
@[simp] theorem callable_103 : callable Tryz.prog 103 = true := by kernel_rfl
@[simp] theorem callable_104 : callable Tryz.prog 104 = true := by kernel_rfl
@[simp] theorem callable_105 : callable Tryz.prog 105 = true := by kernel_rfl
@[simp] theorem callable_106 : callable Tryz.prog 106 = true := by kernel_rfl
@[simp] theorem callable_107 : callable Tryz.prog 107 = true := by kernel_rfl
@[simp] theorem callable_108 : callable Tryz.prog 108 = true := by kernel_rfl
@[simp] theorem callable_109 : callable Tryz.prog 109 = true := by kernel_rfl
@[simp] theorem callable_110 : callable Tryz.prog 110 = true := by kernel_rfl
@[simp] theorem callable_111 : callable Tryz.prog 111 = true := by kernel_rfl
@[simp] theorem callable_112 : callable Tryz.prog 112 = true := by kernel_rfl
@[simp] theorem callable_113 : callable Tryz.prog 113 = true := by kernel_rfl
@[simp] theorem callable_114 : callable Tryz.prog 114 = true := by kernel_rfl
@[simp] theorem callable_115 : callable Tryz.prog 115 = true := by kernel_rfl
@[simp] theorem callable_116 : callable Tryz.prog 116 = true := by kernel_rfl
@[simp] theorem callable_117 : callable Tryz.prog 117 = true := by kernel_rfl
@[simp] theorem callable_118 : callable Tryz.prog 118 = true := by kernel_rfl
@[simp] theorem callable_119 : callable Tryz.prog 119 = true := by kernel_rfl
@[simp] theorem callable_120 : callable Tryz.prog 120 = true := by kernel_rfl
@[simp] theorem callable_121 : callable Tryz.prog 121 = true := by kernel_rfl
@[simp] theorem callable_123 : callable Tryz.prog 123 = true := by kernel_rfl
@[simp] theorem callable_124 : callable Tryz.prog 124 = true := by kernel_rfl
@[simp] theorem callable_125 : callable Tryz.prog 125 = true := by kernel_rfl
@[simp] theorem callable_126 : callable Tryz.prog 126 = true := by kernel_rfl
@[simp] theorem callable_127 : callable Tryz.prog 127 = true := by kernel_rfl
@[simp] theorem callable_128 : callable Tryz.prog 128 = true := by kernel_rfl
@[simp] theorem callable_129 : callable Tryz.prog 129 = true := by kernel_rfl
@[simp] theorem callable_130 : callable Tryz.prog 130 = true := by kernel_rfl
@[simp] theorem callable_131 : callable Tryz.prog 131 = true := by kernel_rfl
@[simp] theorem callable_132 : callable Tryz.prog 132 = true := by kernel_rfl
@[simp] theorem callable_133 : callable Tryz.prog 133 = true := by kernel_rfl
@[simp] theorem callable_134 : callable Tryz.prog 134 = true := by kernel_rfl
@[simp] theorem callable_135 : callable Tryz.prog 135 = true := by kernel_rfl
@[simp] theorem callable_136 : callable Tryz.prog 136 = true := by kernel_rfl
@[simp] theorem callable_137 : callable Tryz.prog 137 = true := by kernel_rfl
@[simp] theorem callable_138 : callable Tryz.prog 138 = true := by kernel_rfl
@[simp] theorem callable_139 : callable Tryz.prog 139 = true := by kernel_rfl
@[simp] theorem callable_140 : callable Tryz.prog 140 = true := by kernel_rfl
@[simp] theorem callable_141 : callable Tryz.prog 141 = true := by kernel_rfl
@[simp] theorem callable_142 : callable Tryz.prog 142 = true := by kernel_rfl
@[simp] theorem callable_143 : callable Tryz.prog 143 = true := by kernel_rfl
@[simp] theorem callable_144 : callable Tryz.prog 144 = true := by kernel_rfl
@[simp] theorem callable_145 : callable Tryz.prog 145 = true := by kernel_rfl
@[simp] theorem callable_146 : callable Tryz.prog 146 = true := by kernel_rfl
@[simp] theorem callable_147 : callable Tryz.prog 147 = true := by kernel_rfl
@[simp] theorem callable_148 : callable Tryz.prog 148 = true := by kernel_rfl
@[simp] theorem callable_149 : callable Tryz.prog 149 = true := by kernel_rfl
@[simp] theorem callable_150 : callable Tryz.prog 150 = true := by kernel_rfl
@[simp] theorem callable_151 : callable Tryz.prog 151 = true := by kernel_rfl
@[simp] theorem callable_152 : callable Tryz.prog 152 = true := by kernel_rfl
@[simp] theorem callable_153 : callable Tryz.prog 153 = true := by kernel_rfl
@[simp] theorem callable_154 : callable Tryz.prog 154 = true := by kernel_rfl
@[simp] theorem callable_155 : callable Tryz.prog 155 = true := by kernel_rfl
@[simp] theorem callable_156 : callable Tryz.prog 156 = true := by kernel_rfl
@[simp] theorem callable_157 : callable Tryz.prog 157 = true := by kernel_rfl
@[simp] theorem callable_158 : callable Tryz.prog 158 = true := by kernel_rfl
@[simp] theorem callable_160 : callable Tryz.prog 160 = true := by kernel_rfl
@[simp] theorem callable_161 : callable Tryz.prog 161 = true := by kernel_rfl
@[simp] theorem callable_162 : callable Tryz.prog 162 = true := by kernel_rfl
@[simp] theorem callable_163 : callable Tryz.prog 163 = true := by kernel_rfl
@[simp] theorem callable_164 : callable Tryz.prog 164 = true := by kernel_rfl
@[simp] theorem callable_166 : callable Tryz.prog 166 = true := by kernel_rfl
@[simp] theorem callable_167 : callable Tryz.prog 167 = true := by kernel_rfl
@[simp] theorem callable_168 : callable Tryz.prog 168 = true := by kernel_rfl
@[simp] theorem callable_171 : callable Tryz.prog 171 = true := by kernel_rfl
@[simp] theorem callable_172 : callable Tryz.prog 172 = true := by kernel_rfl
@[simp] theorem callable_173 : callable Tryz.prog 173 = true := by kernel_rfl
@[simp] theorem callable_174 : callable Tryz.prog 174 = true := by kernel_rfl
@[simp] theorem callable_175 : callable Tryz.prog 175 = true := by kernel_rfl
@[simp] theorem callable_176 : callable Tryz.prog 176 = true := by kernel_rfl
@[simp] theorem callable_177 : callable Tryz.prog 177 = true := by kernel_rfl
@[simp] theorem callable_179 : callable Tryz.prog 179 = true := by kernel_rfl
@[simp] theorem callable_180 : callable Tryz.prog 180 = true := by kernel_rfl
@[simp] theorem callable_181 : callable Tryz.prog 181 = true := by kernel_rfl
@[simp] theorem callable_182 : callable Tryz.prog 182 = true := by kernel_rfl
@[simp] theorem callable_183 : callable Tryz.prog 183 = true := by kernel_rfl
@[simp] theorem callable_184 : callable Tryz.prog 184 = true := by kernel_rfl
@[simp] theorem callable_185 : callable Tryz.prog 185 = true := by kernel_rfl
@[simp] theorem callable_186 : callable Tryz.prog 186 = true := by kernel_rfl
@[simp] theorem callable_187 : callable Tryz.prog 187 = true := by kernel_rfl
@[simp] theorem callable_188 : callable Tryz.prog 188 = true := by kernel_rfl
@[simp] theorem callable_189 : callable Tryz.prog 189 = true := by kernel_rfl
end Go.Proofs.YtcjdagpadnahfaaGreatDoor
