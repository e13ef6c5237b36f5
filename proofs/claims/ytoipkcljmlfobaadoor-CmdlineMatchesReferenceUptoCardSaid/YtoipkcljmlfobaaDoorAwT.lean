/- Facts on the types and functions of this translation, by a program; each closed by the kernel. No condition. -/
import Derived.Test.YtoipkcljmlfobaaDoorProg
import Derived.Test.YtoipkcljmlfobaaDoorAw11
import Derived.KernelRfl
set_option linter.unusedVariables false
set_option maxRecDepth 100000
namespace Go.Proofs.YtoipkcljmlfobaaDoor
open Go Go.AW
@[simp] theorem tk_0 : tk Tryd.prog 0 = .other := by kernel_rfl
@[simp] theorem tsz_0 : tsz Tryd.prog 0 = 1 := by kernel_rfl
@[simp] theorem tby_0 : tby Tryd.prog 0 = 0 := by kernel_rfl
@[simp] theorem az_0 : azero Tryd.prog 0 = AV.tup [] := by kernel_rfl
@[simp] theorem tk_1 : tk Tryd.prog 1 = .fn := by kernel_rfl
@[simp] theorem tsz_1 : tsz Tryd.prog 1 = 1 := by kernel_rfl
@[simp] theorem tby_1 : tby Tryd.prog 1 = 8 := by kernel_rfl
@[simp] theorem az_1 : azero Tryd.prog 1 = AV.c Value.nilFunc := by kernel_rfl
@[simp] theorem tk_2 : tk Tryd.prog 2 = .int .i64 := by kernel_rfl
@[simp] theorem tsz_2 : tsz Tryd.prog 2 = 1 := by kernel_rfl
@[simp] theorem tby_2 : tby Tryd.prog 2 = 8 := by kernel_rfl
@[simp] theorem az_2 : azero Tryd.prog 2 = AV.c (Value.int .i64 0) := by kernel_rfl
@[simp] theorem tk_3 : tk Tryd.prog 3 = .int .i64 := by kernel_rfl
@[simp] theorem tsz_3 : tsz Tryd.prog 3 = 1 := by kernel_rfl
@[simp] theorem tby_3 : tby Tryd.prog 3 = 8 := by kernel_rfl
@[simp] theorem az_3 : azero Tryd.prog 3 = AV.c (Value.int .i64 0) := by kernel_rfl
@[simp] theorem tk_4 : tk Tryd.prog 4 = .bool := by kernel_rfl
@[simp] theorem tsz_4 : tsz Tryd.prog 4 = 1 := by kernel_rfl
@[simp] theorem tby_4 : tby Tryd.prog 4 = 1 := by kernel_rfl
@[simp] theorem az_4 : azero Tryd.prog 4 = AV.c (Value.bool false) := by kernel_rfl
@[simp] theorem tk_5 : tk Tryd.prog 5 = .int .u8 := by kernel_rfl
@[simp] theorem tsz_5 : tsz Tryd.prog 5 = 1 := by kernel_rfl
@[simp] theorem tby_5 : tby Tryd.prog 5 = 1 := by kernel_rfl
@[simp] theorem az_5 : azero Tryd.prog 5 = AV.c (Value.int .u8 0) := by kernel_rfl
@[simp] theorem tk_6 : tk Tryd.prog 6 = .int .u8 := by kernel_rfl
@[simp] theorem tsz_6 : tsz Tryd.prog 6 = 1 := by kernel_rfl
@[simp] theorem tby_6 : tby Tryd.prog 6 = 1 := by kernel_rfl
@[simp] theorem az_6 : azero Tryd.prog 6 = AV.c (Value.int .u8 0) := by kernel_rfl
@[simp] theorem tk_7 : tk Tryd.prog 7 = .strct := by kernel_rfl
@[simp] theorem tsz_7 : tsz Tryd.prog 7 = 4 := by kernel_rfl
@[simp] theorem tby_7 : tby Tryd.prog 7 = 24 := by kernel_rfl
@[simp] theorem az_7 : azero Tryd.prog 7 = AV.agg [AV.c (Value.int .i64 0), AV.c (Value.int .i64 0), AV.c (Value.bool false), AV.c (Value.int .u8 0)] := by kernel_rfl
@[simp] theorem plc_7 : plc Tryd.prog 7 = some [(0, 1), (1, 1), (2, 1), (3, 1)] := by kernel_rfl
@[simp] theorem tk_8 : tk Tryd.prog 8 = .strct := by kernel_rfl
@[simp] theorem tsz_8 : tsz Tryd.prog 8 = 4 := by kernel_rfl
@[simp] theorem tby_8 : tby Tryd.prog 8 = 24 := by kernel_rfl
@[simp] theorem az_8 : azero Tryd.prog 8 = AV.agg [AV.c (Value.int .i64 0), AV.c (Value.int .i64 0), AV.c (Value.bool false), AV.c (Value.int .u8 0)] := by kernel_rfl
@[simp] theorem plc_8 : plc Tryd.prog 8 = some [(0, 1), (1, 1), (2, 1), (3, 1)] := by kernel_rfl
@[simp] theorem tk_9 : tk Tryd.prog 9 = .str := by kernel_rfl
@[simp] theorem tsz_9 : tsz Tryd.prog 9 = 1 := by kernel_rfl
@[simp] theorem tby_9 : tby Tryd.prog 9 = 16 := by kernel_rfl
@[simp] theorem az_9 : azero Tryd.prog 9 = AV.c (Value.string (⟨#[]⟩ : ByteArray)) := by kernel_rfl
@[simp] theorem tk_10 : tk Tryd.prog 10 = .str := by kernel_rfl
@[simp] theorem tsz_10 : tsz Tryd.prog 10 = 1 := by kernel_rfl
@[simp] theorem tby_10 : tby Tryd.prog 10 = 16 := by kernel_rfl
@[simp] theorem az_10 : azero Tryd.prog 10 = AV.c (Value.string (⟨#[]⟩ : ByteArray)) := by kernel_rfl
@[simp] theorem tk_11 : tk Tryd.prog 11 = .str := by kernel_rfl
@[simp] theorem tsz_11 : tsz Tryd.prog 11 = 1 := by kernel_rfl
@[simp] theorem tby_11 : tby Tryd.prog 11 = 16 := by kernel_rfl
@[simp] theorem az_11 : azero Tryd.prog 11 = AV.c (Value.string (⟨#[]⟩ : ByteArray)) := by kernel_rfl
@[simp] theorem tk_12 : tk Tryd.prog 12 = .int .u64 := by kernel_rfl
@[simp] theorem tsz_12 : tsz Tryd.prog 12 = 1 := by kernel_rfl
@[simp] theorem tby_12 : tby Tryd.prog 12 = 8 := by kernel_rfl
@[simp] theorem az_12 : azero Tryd.prog 12 = AV.c (Value.int .u64 0) := by kernel_rfl
@[simp] theorem tk_13 : tk Tryd.prog 13 = .strct := by kernel_rfl
@[simp] theorem tsz_13 : tsz Tryd.prog 13 = 2 := by kernel_rfl
@[simp] theorem tby_13 : tby Tryd.prog 13 = 24 := by kernel_rfl
@[simp] theorem az_13 : azero Tryd.prog 13 = AV.agg [AV.c (Value.string (⟨#[]⟩ : ByteArray)), AV.c (Value.int .u64 0)] := by kernel_rfl
@[simp] theorem plc_13 : plc Tryd.prog 13 = some [(0, 1), (1, 1)] := by kernel_rfl
@[simp] theorem tk_14 : tk Tryd.prog 14 = .strct := by kernel_rfl
@[simp] theorem tsz_14 : tsz Tryd.prog 14 = 2 := by kernel_rfl
@[simp] theorem tby_14 : tby Tryd.prog 14 = 24 := by kernel_rfl
@[simp] theorem az_14 : azero Tryd.prog 14 = AV.agg [AV.c (Value.string (⟨#[]⟩ : ByteArray)), AV.c (Value.int .u64 0)] := by kernel_rfl
@[simp] theorem plc_14 : plc Tryd.prog 14 = some [(0, 1), (1, 1)] := by kernel_rfl
@[simp] theorem tk_15 : tk Tryd.prog 15 = .ptr 54 := by kernel_rfl
@[simp] theorem tsz_15 : tsz Tryd.prog 15 = 1 := by kernel_rfl
@[simp] theorem tby_15 : tby Tryd.prog 15 = 8 := by kernel_rfl
@[simp] theorem az_15 : azero Tryd.prog 15 = AV.c (Value.pointer none) := by kernel_rfl
@[simp] theorem tk_16 : tk Tryd.prog 16 = .ptr 57 := by kernel_rfl
@[simp] theorem tsz_16 : tsz Tryd.prog 16 = 1 := by kernel_rfl
@[simp] theorem tby_16 : tby Tryd.prog 16 = 8 := by kernel_rfl
@[simp] theorem az_16 : azero Tryd.prog 16 = AV.c (Value.pointer none) := by kernel_rfl
@[simp] theorem tk_17 : tk Tryd.prog 17 = .ptr 67 := by kernel_rfl
@[simp] theorem tsz_17 : tsz Tryd.prog 17 = 1 := by kernel_rfl
@[simp] theorem tby_17 : tby Tryd.prog 17 = 8 := by kernel_rfl
@[simp] theorem az_17 : azero Tryd.prog 17 = AV.c (Value.pointer none) := by kernel_rfl
@[simp] theorem tk_18 : tk Tryd.prog 18 = .strct := by kernel_rfl
@[simp] theorem tsz_18 : tsz Tryd.prog 18 = 1 := by kernel_rfl
@[simp] theorem tby_18 : tby Tryd.prog 18 = 8 := by kernel_rfl
@[simp] theorem az_18 : azero Tryd.prog 18 = AV.agg [AV.c (Value.pointer none)] := by kernel_rfl
@[simp] theorem plc_18 : plc Tryd.prog 18 = some [(0, 1)] := by kernel_rfl
@[simp] theorem tk_19 : tk Tryd.prog 19 = .strct := by kernel_rfl
@[simp] theorem tsz_19 : tsz Tryd.prog 19 = 1 := by kernel_rfl
@[simp] theorem tby_19 : tby Tryd.prog 19 = 8 := by kernel_rfl
@[simp] theorem az_19 : azero Tryd.prog 19 = AV.agg [AV.c (Value.pointer none)] := by kernel_rfl
@[simp] theorem plc_19 : plc Tryd.prog 19 = some [(0, 1)] := by kernel_rfl
@[simp] theorem tk_20 : tk Tryd.prog 20 = .ifc := by kernel_rfl
@[simp] theorem tsz_20 : tsz Tryd.prog 20 = 1 := by kernel_rfl
@[simp] theorem tby_20 : tby Tryd.prog 20 = 16 := by kernel_rfl
@[simp] theorem az_20 : azero Tryd.prog 20 = AV.c Value.nilIface := by kernel_rfl
@[simp] theorem tk_21 : tk Tryd.prog 21 = .int .i32 := by kernel_rfl
@[simp] theorem tsz_21 : tsz Tryd.prog 21 = 1 := by kernel_rfl
@[simp] theorem tby_21 : tby Tryd.prog 21 = 4 := by kernel_rfl
@[simp] theorem az_21 : azero Tryd.prog 21 = AV.c (Value.int .i32 0) := by kernel_rfl
@[simp] theorem tk_22 : tk Tryd.prog 22 = .slc 9 := by kernel_rfl
@[simp] theorem tsz_22 : tsz Tryd.prog 22 = 1 := by kernel_rfl
@[simp] theorem tby_22 : tby Tryd.prog 22 = 24 := by kernel_rfl
@[simp] theorem az_22 : azero Tryd.prog 22 = AV.nl := by kernel_rfl
@[simp] theorem tk_23 : tk Tryd.prog 23 = .fn := by kernel_rfl
@[simp] theorem tsz_23 : tsz Tryd.prog 23 = 1 := by kernel_rfl
@[simp] theorem tby_23 : tby Tryd.prog 23 = 8 := by kernel_rfl
@[simp] theorem az_23 : azero Tryd.prog 23 = AV.c Value.nilFunc := by kernel_rfl
@[simp] theorem tk_24 : tk Tryd.prog 24 = .slc 36 := by kernel_rfl
@[simp] theorem tsz_24 : tsz Tryd.prog 24 = 1 := by kernel_rfl
@[simp] theorem tby_24 : tby Tryd.prog 24 = 24 := by kernel_rfl
@[simp] theorem az_24 : azero Tryd.prog 24 = AV.nl := by kernel_rfl
@[simp] theorem tk_25 : tk Tryd.prog 25 = .int .i64 := by kernel_rfl
@[simp] theorem tsz_25 : tsz Tryd.prog 25 = 1 := by kernel_rfl
@[simp] theorem tby_25 : tby Tryd.prog 25 = 8 := by kernel_rfl
@[simp] theorem az_25 : azero Tryd.prog 25 = AV.c (Value.int .i64 0) := by kernel_rfl
@[simp] theorem tk_26 : tk Tryd.prog 26 = .other := by kernel_rfl
@[simp] theorem tsz_26 : tsz Tryd.prog 26 = 1 := by kernel_rfl
@[simp] theorem tby_26 : tby Tryd.prog 26 = 0 := by kernel_rfl
@[simp] theorem az_26 : azero Tryd.prog 26 = AV.junk := by kernel_rfl
@[simp] theorem tk_27 : tk Tryd.prog 27 = .fn := by kernel_rfl
@[simp] theorem tsz_27 : tsz Tryd.prog 27 = 1 := by kernel_rfl
@[simp] theorem tby_27 : tby Tryd.prog 27 = 8 := by kernel_rfl
@[simp] theorem az_27 : azero Tryd.prog 27 = AV.c Value.nilFunc := by kernel_rfl
@[simp] theorem tk_28 : tk Tryd.prog 28 = .fn := by kernel_rfl
@[simp] theorem tsz_28 : tsz Tryd.prog 28 = 1 := by kernel_rfl
@[simp] theorem tby_28 : tby Tryd.prog 28 = 8 := by kernel_rfl
@[simp] theorem az_28 : azero Tryd.prog 28 = AV.c Value.nilFunc := by kernel_rfl
@[simp] theorem tk_29 : tk Tryd.prog 29 = .fn := by kernel_rfl
@[simp] theorem tsz_29 : tsz Tryd.prog 29 = 1 := by kernel_rfl
@[simp] theorem tby_29 : tby Tryd.prog 29 = 8 := by kernel_rfl
@[simp] theorem az_29 : azero Tryd.prog 29 = AV.c Value.nilFunc := by kernel_rfl
@[simp] theorem tk_30 : tk Tryd.prog 30 = .slc 39 := by kernel_rfl
@[simp] theorem tsz_30 : tsz Tryd.prog 30 = 1 := by kernel_rfl
@[simp] theorem tby_30 : tby Tryd.prog 30 = 24 := by kernel_rfl
@[simp] theorem az_30 : azero Tryd.prog 30 = AV.nl := by kernel_rfl
@[simp] theorem tk_31 : tk Tryd.prog 31 = .fn := by kernel_rfl
@[simp] theorem tsz_31 : tsz Tryd.prog 31 = 1 := by kernel_rfl
@[simp] theorem tby_31 : tby Tryd.prog 31 = 8 := by kernel_rfl
@[simp] theorem az_31 : azero Tryd.prog 31 = AV.c Value.nilFunc := by kernel_rfl
@[simp] theorem tk_32 : tk Tryd.prog 32 = .fn := by kernel_rfl
@[simp] theorem tsz_32 : tsz Tryd.prog 32 = 1 := by kernel_rfl
@[simp] theorem tby_32 : tby Tryd.prog 32 = 8 := by kernel_rfl
@[simp] theorem az_32 : azero Tryd.prog 32 = AV.c Value.nilFunc := by kernel_rfl
@[simp] theorem tk_33 : tk Tryd.prog 33 = .fn := by kernel_rfl
@[simp] theorem tsz_33 : tsz Tryd.prog 33 = 1 := by kernel_rfl
@[simp] theorem tby_33 : tby Tryd.prog 33 = 8 := by kernel_rfl
@[simp] theorem az_33 : azero Tryd.prog 33 = AV.c Value.nilFunc := by kernel_rfl
@[simp] theorem tk_34 : tk Tryd.prog 34 = .slc 3 := by kernel_rfl
@[simp] theorem tsz_34 : tsz Tryd.prog 34 = 1 := by kernel_rfl
@[simp] theorem tby_34 : tby Tryd.prog 34 = 24 := by kernel_rfl
@[simp] theorem az_34 : azero Tryd.prog 34 = AV.nl := by kernel_rfl
@[simp] theorem tk_35 : tk Tryd.prog 35 = .strct := by kernel_rfl
@[simp] theorem tsz_35 : tsz Tryd.prog 35 = 3 := by kernel_rfl
@[simp] theorem tby_35 : tby Tryd.prog 35 = 56 := by kernel_rfl
@[simp] theorem az_35 : azero Tryd.prog 35 = AV.agg [AV.c (Value.bool false), AV.nl, AV.nl] := by kernel_rfl
@[simp] theorem plc_35 : plc Tryd.prog 35 = some [(0, 1), (1, 1), (2, 1)] := by kernel_rfl
@[simp] theorem tk_36 : tk Tryd.prog 36 = .strct := by kernel_rfl
@[simp] theorem tsz_36 : tsz Tryd.prog 36 = 3 := by kernel_rfl
@[simp] theorem tby_36 : tby Tryd.prog 36 = 56 := by kernel_rfl
@[simp] theorem az_36 : azero Tryd.prog 36 = AV.agg [AV.c (Value.bool false), AV.nl, AV.nl] := by kernel_rfl
@[simp] theorem plc_36 : plc Tryd.prog 36 = some [(0, 1), (1, 1), (2, 1)] := by kernel_rfl
@[simp] theorem tk_37 : tk Tryd.prog 37 = .other := by kernel_rfl
@[simp] theorem tsz_37 : tsz Tryd.prog 37 = 1 := by kernel_rfl
@[simp] theorem tby_37 : tby Tryd.prog 37 = 0 := by kernel_rfl
@[simp] theorem az_37 : azero Tryd.prog 37 = AV.junk := by kernel_rfl
@[simp] theorem tk_38 : tk Tryd.prog 38 = .fn := by kernel_rfl
@[simp] theorem tsz_38 : tsz Tryd.prog 38 = 1 := by kernel_rfl
@[simp] theorem tby_38 : tby Tryd.prog 38 = 8 := by kernel_rfl
@[simp] theorem az_38 : azero Tryd.prog 38 = AV.c Value.nilFunc := by kernel_rfl
@[simp] theorem tk_39 : tk Tryd.prog 39 = .strct := by kernel_rfl
@[simp] theorem tsz_39 : tsz Tryd.prog 39 = 3 := by kernel_rfl
@[simp] theorem tby_39 : tby Tryd.prog 39 = 56 := by kernel_rfl
@[simp] theorem az_39 : azero Tryd.prog 39 = AV.agg [AV.c (Value.bool false), AV.nl, AV.nl] := by kernel_rfl
@[simp] theorem plc_39 : plc Tryd.prog 39 = some [(0, 1), (1, 1), (2, 1)] := by kernel_rfl
@[simp] theorem tk_40 : tk Tryd.prog 40 = .fn := by kernel_rfl
@[simp] theorem tsz_40 : tsz Tryd.prog 40 = 1 := by kernel_rfl
@[simp] theorem tby_40 : tby Tryd.prog 40 = 8 := by kernel_rfl
@[simp] theorem az_40 : azero Tryd.prog 40 = AV.c Value.nilFunc := by kernel_rfl
@[simp] theorem tk_41 : tk Tryd.prog 41 = .fn := by kernel_rfl
@[simp] theorem tsz_41 : tsz Tryd.prog 41 = 1 := by kernel_rfl
@[simp] theorem tby_41 : tby Tryd.prog 41 = 8 := by kernel_rfl
@[simp] theorem az_41 : azero Tryd.prog 41 = AV.c Value.nilFunc := by kernel_rfl
@[simp] theorem tk_42 : tk Tryd.prog 42 = .fn := by kernel_rfl
@[simp] theorem tsz_42 : tsz Tryd.prog 42 = 1 := by kernel_rfl
@[simp] theorem tby_42 : tby Tryd.prog 42 = 8 := by kernel_rfl
@[simp] theorem az_42 : azero Tryd.prog 42 = AV.c Value.nilFunc := by kernel_rfl
@[simp] theorem tk_43 : tk Tryd.prog 43 = .ptr 46 := by kernel_rfl
@[simp] theorem tsz_43 : tsz Tryd.prog 43 = 1 := by kernel_rfl
@[simp] theorem tby_43 : tby Tryd.prog 43 = 8 := by kernel_rfl
@[simp] theorem az_43 : azero Tryd.prog 43 = AV.c (Value.pointer none) := by kernel_rfl
@[simp] theorem tk_44 : tk Tryd.prog 44 = .fn := by kernel_rfl
@[simp] theorem tsz_44 : tsz Tryd.prog 44 = 1 := by kernel_rfl
@[simp] theorem tby_44 : tby Tryd.prog 44 = 8 := by kernel_rfl
@[simp] theorem az_44 : azero Tryd.prog 44 = AV.c Value.nilFunc := by kernel_rfl
@[simp] theorem tk_45 : tk Tryd.prog 45 = .strct := by kernel_rfl
@[simp] theorem tsz_45 : tsz Tryd.prog 45 = 3 := by kernel_rfl
@[simp] theorem tby_45 : tby Tryd.prog 45 = 40 := by kernel_rfl
@[simp] theorem az_45 : azero Tryd.prog 45 = AV.agg [AV.c Value.nilFunc, AV.nl, AV.c (Value.int .i64 0)] := by kernel_rfl
@[simp] theorem plc_45 : plc Tryd.prog 45 = some [(0, 1), (1, 1), (2, 1)] := by kernel_rfl
@[simp] theorem tk_46 : tk Tryd.prog 46 = .strct := by kernel_rfl
@[simp] theorem tsz_46 : tsz Tryd.prog 46 = 3 := by kernel_rfl
@[simp] theorem tby_46 : tby Tryd.prog 46 = 40 := by kernel_rfl
@[simp] theorem az_46 : azero Tryd.prog 46 = AV.agg [AV.c Value.nilFunc, AV.nl, AV.c (Value.int .i64 0)] := by kernel_rfl
@[simp] theorem plc_46 : plc Tryd.prog 46 = some [(0, 1), (1, 1), (2, 1)] := by kernel_rfl
@[simp] theorem tk_47 : tk Tryd.prog 47 = .fn := by kernel_rfl
@[simp] theorem tsz_47 : tsz Tryd.prog 47 = 1 := by kernel_rfl
@[simp] theorem tby_47 : tby Tryd.prog 47 = 8 := by kernel_rfl
@[simp] theorem az_47 : azero Tryd.prog 47 = AV.c Value.nilFunc := by kernel_rfl
@[simp] theorem tk_48 : tk Tryd.prog 48 = .fn := by kernel_rfl
@[simp] theorem tsz_48 : tsz Tryd.prog 48 = 1 := by kernel_rfl
@[simp] theorem tby_48 : tby Tryd.prog 48 = 8 := by kernel_rfl
@[simp] theorem az_48 : azero Tryd.prog 48 = AV.c Value.nilFunc := by kernel_rfl
@[simp] theorem tk_49 : tk Tryd.prog 49 = .fn := by kernel_rfl
@[simp] theorem tsz_49 : tsz Tryd.prog 49 = 1 := by kernel_rfl
@[simp] theorem tby_49 : tby Tryd.prog 49 = 8 := by kernel_rfl
@[simp] theorem az_49 : azero Tryd.prog 49 = AV.c Value.nilFunc := by kernel_rfl
@[simp] theorem tk_50 : tk Tryd.prog 50 = .fn := by kernel_rfl
@[simp] theorem tsz_50 : tsz Tryd.prog 50 = 1 := by kernel_rfl
@[simp] theorem tby_50 : tby Tryd.prog 50 = 8 := by kernel_rfl
@[simp] theorem az_50 : azero Tryd.prog 50 = AV.c Value.nilFunc := by kernel_rfl
@[simp] theorem tk_51 : tk Tryd.prog 51 = .ptr 36 := by kernel_rfl
@[simp] theorem tsz_51 : tsz Tryd.prog 51 = 1 := by kernel_rfl
@[simp] theorem tby_51 : tby Tryd.prog 51 = 8 := by kernel_rfl
@[simp] theorem az_51 : azero Tryd.prog 51 = AV.c (Value.pointer none) := by kernel_rfl
@[simp] theorem tk_52 : tk Tryd.prog 52 = .fn := by kernel_rfl
@[simp] theorem tsz_52 : tsz Tryd.prog 52 = 1 := by kernel_rfl
@[simp] theorem tby_52 : tby Tryd.prog 52 = 8 := by kernel_rfl
@[simp] theorem az_52 : azero Tryd.prog 52 = AV.c Value.nilFunc := by kernel_rfl
@[simp] theorem tk_53 : tk Tryd.prog 53 = .strct := by kernel_rfl
@[simp] theorem tsz_53 : tsz Tryd.prog 53 = 4 := by kernel_rfl
@[simp] theorem tby_53 : tby Tryd.prog 53 = 40 := by kernel_rfl
@[simp] theorem az_53 : azero Tryd.prog 53 = AV.agg [AV.c (Value.pointer none), AV.c (Value.pointer none), AV.c (Value.pointer none), AV.c (Value.string (⟨#[]⟩ : ByteArray))] := by kernel_rfl
@[simp] theorem plc_53 : plc Tryd.prog 53 = some [(0, 1), (1, 1), (2, 1), (3, 1)] := by kernel_rfl
@[simp] theorem tk_54 : tk Tryd.prog 54 = .strct := by kernel_rfl
@[simp] theorem tsz_54 : tsz Tryd.prog 54 = 4 := by kernel_rfl
@[simp] theorem tby_54 : tby Tryd.prog 54 = 40 := by kernel_rfl
@[simp] theorem az_54 : azero Tryd.prog 54 = AV.agg [AV.c (Value.pointer none), AV.c (Value.pointer none), AV.c (Value.pointer none), AV.c (Value.string (⟨#[]⟩ : ByteArray))] := by kernel_rfl
@[simp] theorem plc_54 : plc Tryd.prog 54 = some [(0, 1), (1, 1), (2, 1), (3, 1)] := by kernel_rfl
@[simp] theorem tk_55 : tk Tryd.prog 55 = .arr 0 16 := by kernel_rfl
@[simp] theorem tsz_55 : tsz Tryd.prog 55 = 0 := by kernel_rfl
@[simp] theorem tby_55 : tby Tryd.prog 55 = 0 := by kernel_rfl
@[simp] theorem az_55 : azero Tryd.prog 55 = AV.agg [] := by kernel_rfl
@[simp] theorem plc_55 : plc Tryd.prog 55 = some [] := by kernel_rfl
@[simp] theorem tk_56 : tk Tryd.prog 56 = .strct := by kernel_rfl
@[simp] theorem tsz_56 : tsz Tryd.prog 56 = 0 := by kernel_rfl
@[simp] theorem tby_56 : tby Tryd.prog 56 = 0 := by kernel_rfl
@[simp] theorem az_56 : azero Tryd.prog 56 = AV.agg [] := by kernel_rfl
@[simp] theorem plc_56 : plc Tryd.prog 56 = some [(0, 0)] := by kernel_rfl
@[simp] theorem tk_57 : tk Tryd.prog 57 = .strct := by kernel_rfl
@[simp] theorem tsz_57 : tsz Tryd.prog 57 = 0 := by kernel_rfl
@[simp] theorem tby_57 : tby Tryd.prog 57 = 0 := by kernel_rfl
@[simp] theorem az_57 : azero Tryd.prog 57 = AV.agg [] := by kernel_rfl
@[simp] theorem plc_57 : plc Tryd.prog 57 = some [(0, 0)] := by kernel_rfl
@[simp] theorem tk_58 : tk Tryd.prog 58 = .fn := by kernel_rfl
@[simp] theorem tsz_58 : tsz Tryd.prog 58 = 1 := by kernel_rfl
@[simp] theorem tby_58 : tby Tryd.prog 58 = 8 := by kernel_rfl
@[simp] theorem az_58 : azero Tryd.prog 58 = AV.c Value.nilFunc := by kernel_rfl
@[simp] theorem tk_59 : tk Tryd.prog 59 = .int .u32 := by kernel_rfl
@[simp] theorem tsz_59 : tsz Tryd.prog 59 = 1 := by kernel_rfl
@[simp] theorem tby_59 : tby Tryd.prog 59 = 4 := by kernel_rfl
@[simp] theorem az_59 : azero Tryd.prog 59 = AV.c (Value.int .u32 0) := by kernel_rfl
@[simp] theorem tk_60 : tk Tryd.prog 60 = .int .u8 := by kernel_rfl
@[simp] theorem tsz_60 : tsz Tryd.prog 60 = 1 := by kernel_rfl
@[simp] theorem tby_60 : tby Tryd.prog 60 = 1 := by kernel_rfl
@[simp] theorem az_60 : azero Tryd.prog 60 = AV.c (Value.int .u8 0) := by kernel_rfl
@[simp] theorem tk_61 : tk Tryd.prog 61 = .int .u8 := by kernel_rfl
@[simp] theorem tsz_61 : tsz Tryd.prog 61 = 1 := by kernel_rfl
@[simp] theorem tby_61 : tby Tryd.prog 61 = 1 := by kernel_rfl
@[simp] theorem az_61 : azero Tryd.prog 61 = AV.c (Value.int .u8 0) := by kernel_rfl
@[simp] theorem tk_62 : tk Tryd.prog 62 = .fn := by kernel_rfl
@[simp] theorem tsz_62 : tsz Tryd.prog 62 = 1 := by kernel_rfl
@[simp] theorem tby_62 : tby Tryd.prog 62 = 8 := by kernel_rfl
@[simp] theorem az_62 : azero Tryd.prog 62 = AV.c Value.nilFunc := by kernel_rfl
@[simp] theorem tk_63 : tk Tryd.prog 63 = .ptr 5 := by kernel_rfl
@[simp] theorem tsz_63 : tsz Tryd.prog 63 = 1 := by kernel_rfl
@[simp] theorem tby_63 : tby Tryd.prog 63 = 8 := by kernel_rfl
@[simp] theorem az_63 : azero Tryd.prog 63 = AV.c (Value.pointer none) := by kernel_rfl
@[simp] theorem tk_64 : tk Tryd.prog 64 = .int .i32 := by kernel_rfl
@[simp] theorem tsz_64 : tsz Tryd.prog 64 = 1 := by kernel_rfl
@[simp] theorem tby_64 : tby Tryd.prog 64 = 4 := by kernel_rfl
@[simp] theorem az_64 : azero Tryd.prog 64 = AV.c (Value.int .i32 0) := by kernel_rfl
@[simp] theorem tk_65 : tk Tryd.prog 65 = .int .i32 := by kernel_rfl
@[simp] theorem tsz_65 : tsz Tryd.prog 65 = 1 := by kernel_rfl
@[simp] theorem tby_65 : tby Tryd.prog 65 = 4 := by kernel_rfl
@[simp] theorem az_65 : azero Tryd.prog 65 = AV.c (Value.int .i32 0) := by kernel_rfl
@[simp] theorem tk_66 : tk Tryd.prog 66 = .strct := by kernel_rfl
@[simp] theorem tsz_66 : tsz Tryd.prog 66 = 11 := by kernel_rfl
@[simp] theorem tby_66 : tby Tryd.prog 66 = 48 := by kernel_rfl
@[simp] theorem az_66 : azero Tryd.prog 66 = AV.agg [AV.c (Value.int .u64 0), AV.c (Value.int .u64 0), AV.c (Value.int .u32 0), AV.c (Value.int .u8 0), AV.c (Value.int .u8 0), AV.c (Value.int .u8 0), AV.c (Value.int .u8 0), AV.c Value.nilFunc, AV.c (Value.pointer none), AV.c (Value.int .i32 0), AV.c (Value.int .i32 0)] := by kernel_rfl
@[simp] theorem plc_66 : plc Tryd.prog 66 = some [(0, 1), (1, 1), (2, 1), (3, 1), (4, 1), (5, 1), (6, 1), (7, 1), (8, 1), (9, 1), (10, 1)] := by kernel_rfl
@[simp] theorem tk_67 : tk Tryd.prog 67 = .strct := by kernel_rfl
@[simp] theorem tsz_67 : tsz Tryd.prog 67 = 11 := by kernel_rfl
@[simp] theorem tby_67 : tby Tryd.prog 67 = 48 := by kernel_rfl
@[simp] theorem az_67 : azero Tryd.prog 67 = AV.agg [AV.c (Value.int .u64 0), AV.c (Value.int .u64 0), AV.c (Value.int .u32 0), AV.c (Value.int .u8 0), AV.c (Value.int .u8 0), AV.c (Value.int .u8 0), AV.c (Value.int .u8 0), AV.c Value.nilFunc, AV.c (Value.pointer none), AV.c (Value.int .i32 0), AV.c (Value.int .i32 0)] := by kernel_rfl
@[simp] theorem plc_67 : plc Tryd.prog 67 = some [(0, 1), (1, 1), (2, 1), (3, 1), (4, 1), (5, 1), (6, 1), (7, 1), (8, 1), (9, 1), (10, 1)] := by kernel_rfl
@[simp] theorem tk_68 : tk Tryd.prog 68 = .other := by kernel_rfl
@[simp] theorem tsz_68 : tsz Tryd.prog 68 = 1 := by kernel_rfl
@[simp] theorem tby_68 : tby Tryd.prog 68 = 8 := by kernel_rfl
@[simp] theorem az_68 : azero Tryd.prog 68 = AV.c (Value.pointer none) := by kernel_rfl
@[simp] theorem fld_7_0 : fld Tryd.prog 7 0 = some (0, 2) := by kernel_rfl
@[simp] theorem fld_7_1 : fld Tryd.prog 7 1 = some (1, 3) := by kernel_rfl
@[simp] theorem fld_7_2 : fld Tryd.prog 7 2 = some (2, 4) := by kernel_rfl
@[simp] theorem fld_7_3 : fld Tryd.prog 7 3 = some (3, 6) := by kernel_rfl
@[simp] theorem fld_8_0 : fld Tryd.prog 8 0 = some (0, 2) := by kernel_rfl
@[simp] theorem fld_8_1 : fld Tryd.prog 8 1 = some (1, 3) := by kernel_rfl
@[simp] theorem fld_8_2 : fld Tryd.prog 8 2 = some (2, 4) := by kernel_rfl
@[simp] theorem fld_8_3 : fld Tryd.prog 8 3 = some (3, 6) := by kernel_rfl
@[simp] theorem fld_13_0 : fld Tryd.prog 13 0 = some (0, 9) := by kernel_rfl
@[simp] theorem fld_13_1 : fld Tryd.prog 13 1 = some (1, 12) := by kernel_rfl
@[simp] theorem fld_14_0 : fld Tryd.prog 14 0 = some (0, 9) := by kernel_rfl
@[simp] theorem fld_14_1 : fld Tryd.prog 14 1 = some (1, 12) := by kernel_rfl
@[simp] theorem fld_18_0 : fld Tryd.prog 18 0 = some (0, 17) := by kernel_rfl
@[simp] theorem fld_19_0 : fld Tryd.prog 19 0 = some (0, 17) := by kernel_rfl
@[simp] theorem fld_35_0 : fld Tryd.prog 35 0 = some (0, 4) := by kernel_rfl
@[simp] theorem fld_35_1 : fld Tryd.prog 35 1 = some (1, 22) := by kernel_rfl
@[simp] theorem fld_35_2 : fld Tryd.prog 35 2 = some (2, 34) := by kernel_rfl
@[simp] theorem fld_36_0 : fld Tryd.prog 36 0 = some (0, 4) := by kernel_rfl
@[simp] theorem fld_36_1 : fld Tryd.prog 36 1 = some (1, 22) := by kernel_rfl
@[simp] theorem fld_36_2 : fld Tryd.prog 36 2 = some (2, 34) := by kernel_rfl
@[simp] theorem fld_39_0 : fld Tryd.prog 39 0 = some (0, 4) := by kernel_rfl
@[simp] theorem fld_39_1 : fld Tryd.prog 39 1 = some (1, 22) := by kernel_rfl
@[simp] theorem fld_39_2 : fld Tryd.prog 39 2 = some (2, 34) := by kernel_rfl
@[simp] theorem fld_45_0 : fld Tryd.prog 45 0 = some (0, 44) := by kernel_rfl
@[simp] theorem fld_45_1 : fld Tryd.prog 45 1 = some (1, 24) := by kernel_rfl
@[simp] theorem fld_45_2 : fld Tryd.prog 45 2 = some (2, 3) := by kernel_rfl
@[simp] theorem fld_46_0 : fld Tryd.prog 46 0 = some (0, 44) := by kernel_rfl
@[simp] theorem fld_46_1 : fld Tryd.prog 46 1 = some (1, 24) := by kernel_rfl
@[simp] theorem fld_46_2 : fld Tryd.prog 46 2 = some (2, 3) := by kernel_rfl
@[simp] theorem fld_53_0 : fld Tryd.prog 53 0 = some (0, 17) := by kernel_rfl
@[simp] theorem fld_53_1 : fld Tryd.prog 53 1 = some (1, 17) := by kernel_rfl
@[simp] theorem fld_53_2 : fld Tryd.prog 53 2 = some (2, 17) := by kernel_rfl
@[simp] theorem fld_53_3 : fld Tryd.prog 53 3 = some (3, 9) := by kernel_rfl
@[simp] theorem fld_54_0 : fld Tryd.prog 54 0 = some (0, 17) := by kernel_rfl
@[simp] theorem fld_54_1 : fld Tryd.prog 54 1 = some (1, 17) := by kernel_rfl
@[simp] theorem fld_54_2 : fld Tryd.prog 54 2 = some (2, 17) := by kernel_rfl
@[simp] theorem fld_54_3 : fld Tryd.prog 54 3 = some (3, 9) := by kernel_rfl
@[simp] theorem fld_56_0 : fld Tryd.prog 56 0 = none := by kernel_rfl
@[simp] theorem fld_57_0 : fld Tryd.prog 57 0 = none := by kernel_rfl
@[simp] theorem fld_66_0 : fld Tryd.prog 66 0 = some (0, 12) := by kernel_rfl
@[simp] theorem fld_66_1 : fld Tryd.prog 66 1 = some (1, 12) := by kernel_rfl
@[simp] theorem fld_66_2 : fld Tryd.prog 66 2 = some (2, 59) := by kernel_rfl
@[simp] theorem fld_66_3 : fld Tryd.prog 66 3 = some (3, 60) := by kernel_rfl
@[simp] theorem fld_66_4 : fld Tryd.prog 66 4 = some (4, 5) := by kernel_rfl
@[simp] theorem fld_66_5 : fld Tryd.prog 66 5 = some (5, 5) := by kernel_rfl
@[simp] theorem fld_66_6 : fld Tryd.prog 66 6 = some (6, 61) := by kernel_rfl
@[simp] theorem fld_66_7 : fld Tryd.prog 66 7 = some (7, 62) := by kernel_rfl
@[simp] theorem fld_66_8 : fld Tryd.prog 66 8 = some (8, 63) := by kernel_rfl
@[simp] theorem fld_66_9 : fld Tryd.prog 66 9 = some (9, 64) := by kernel_rfl
@[simp] theorem fld_66_10 : fld Tryd.prog 66 10 = some (10, 65) := by kernel_rfl
@[simp] theorem fld_67_0 : fld Tryd.prog 67 0 = some (0, 12) := by kernel_rfl
@[simp] theorem fld_67_1 : fld Tryd.prog 67 1 = some (1, 12) := by kernel_rfl
@[simp] theorem fld_67_2 : fld Tryd.prog 67 2 = some (2, 59) := by kernel_rfl
@[simp] theorem fld_67_3 : fld Tryd.prog 67 3 = some (3, 60) := by kernel_rfl
@[simp] theorem fld_67_4 : fld Tryd.prog 67 4 = some (4, 5) := by kernel_rfl
@[simp] theorem fld_67_5 : fld Tryd.prog 67 5 = some (5, 5) := by kernel_rfl
@[simp] theorem fld_67_6 : fld Tryd.prog 67 6 = some (6, 61) := by kernel_rfl
@[simp] theorem fld_67_7 : fld Tryd.prog 67 7 = some (7, 62) := by kernel_rfl
@[simp] theorem fld_67_8 : fld Tryd.prog 67 8 = some (8, 63) := by kernel_rfl
@[simp] theorem fld_67_9 : fld Tryd.prog 67 9 = some (9, 64) := by kernel_rfl
@[simp] theorem fld_67_10 : fld Tryd.prog 67 10 = some (10, 65) := by kernel_rfl
@[simp] theorem callable_3 : callable Tryd.prog 3 = true := by kernel_rfl
@[simp] theorem callable_4 : callable Tryd.prog 4 = true := by kernel_rfl
@[simp] theorem callable_5 : callable Tryd.prog 5 = true := by kernel_rfl
@[simp] theorem callable_6 : callable Tryd.prog 6 = true := by kernel_rfl
@[simp] theorem callable_7 : callable Tryd.prog 7 = true := by kernel_rfl
@[simp] theorem callable_8 : callable Tryd.prog 8 = true := by kernel_rfl
@[simp] theorem callable_9 : callable Tryd.prog 9 = true := by kernel_rfl
@[simp] theorem callable_10 : callable Tryd.prog 10 = true := by kernel_rfl
@[simp] theorem callable_11 : callable Tryd.prog 11 = true := by kernel_rfl
@[simp] theorem callable_12 : callable Tryd.prog 12 = true := by kernel_rfl
@[simp] theorem callable_13 : callable Tryd.prog 13 = true := by kernel_rfl
@[simp] theorem callable_14 : callable Tryd.prog 14 = true := by kernel_rfl
@[simp] theorem callable_15 : callable Tryd.prog 15 = true := by kernel_rfl
@[simp] theorem callable_16 : callable Tryd.prog 16 = true := by kernel_rfl
@[simp] theorem callable_17 : callable Tryd.prog 17 = true := by kernel_rfl
@[simp] theorem callable_18 : callable Tryd.prog 18 = true := by kernel_rfl
@[simp] theorem callable_19 : callable Tryd.prog 19 = true := by kernel_rfl
@[simp] theorem callable_20 : callable Tryd.prog 20 = true := by kernel_rfl
@[simp] theorem callable_21 : callable Tryd.prog 21 = true := by kernel_rfl
@[simp] theorem callable_22 : callable Tryd.prog 22 = true := by kernel_rfl
@[simp] theorem callable_23 : callable Tryd.prog 23 = true := by kernel_rfl
end Go.Proofs.YtoipkcljmlfobaaDoor
