/- Facts on the types and functions of this translation, by a program; each closed by the kernel. No condition. -/
import Derived.Test.YtfonamgmfljhlaaDoorProg
import Derived.Test.YtfonamgmfljhlaaDoorGI
import Derived.KernelRfl
set_option linter.unusedVariables false
set_option maxRecDepth 100000
namespace Go.Proofs.YtfonamgmfljhlaaDoor
open Go Go.AW
@[simp] theorem tk_0 : tk Tryd.prog 0 = .other := by kernel_rfl
@[simp] theorem tsz_0 : tsz Tryd.prog 0 = 1 := by kernel_rfl
@[simp] theorem tby_0 : tby Tryd.prog 0 = 0 := by kernel_rfl
@[simp] theorem az_0 : azero Tryd.prog 0 = AV.tup [] := by kernel_rfl
@[simp] theorem tk_1 : tk Tryd.prog 1 = .fn := by kernel_rfl
@[simp] theorem tsz_1 : tsz Tryd.prog 1 = 1 := by kernel_rfl
@[simp] theorem tby_1 : tby Tryd.prog 1 = 8 := by kernel_rfl
@[simp] theorem az_1 : azero Tryd.prog 1 = AV.c Value.nilFunc := by kernel_rfl
@[simp] theorem tk_2 : tk Tryd.prog 2 = .int .i64 := by kernel_rfl
@[simp] theorem tsz_2 : tsz Tryd.prog 2 = 1 := by kernel_rfl
@[simp] theorem tby_2 : tby Tryd.prog 2 = 8 := by kernel_rfl
@[simp] theorem az_2 : azero Tryd.prog 2 = AV.c (Value.int .i64 0) := by kernel_rfl
@[simp] theorem tk_3 : tk Tryd.prog 3 = .int .i64 := by kernel_rfl
@[simp] theorem tsz_3 : tsz Tryd.prog 3 = 1 := by kernel_rfl
@[simp] theorem tby_3 : tby Tryd.prog 3 = 8 := by kernel_rfl
@[simp] theorem az_3 : azero Tryd.prog 3 = AV.c (Value.int .i64 0) := by kernel_rfl
@[simp] theorem tk_4 : tk Tryd.prog 4 = .bool := by kernel_rfl
@[simp] theorem tsz_4 : tsz Tryd.prog 4 = 1 := by kernel_rfl
@[simp] theorem tby_4 : tby Tryd.prog 4 = 1 := by kernel_rfl
@[simp] theorem az_4 : azero Tryd.prog 4 = AV.c (Value.bool false) := by kernel_rfl
@[simp] theorem tk_5 : tk Tryd.prog 5 = .int .u8 := by kernel_rfl
@[simp] theorem tsz_5 : tsz Tryd.prog 5 = 1 := by kernel_rfl
@[simp] theorem tby_5 : tby Tryd.prog 5 = 1 := by kernel_rfl
@[simp] theorem az_5 : azero Tryd.prog 5 = AV.c (Value.int .u8 0) := by kernel_rfl
@[simp] theorem tk_6 : tk Tryd.prog 6 = .int .u8 := by kernel_rfl
@[simp] theorem tsz_6 : tsz Tryd.prog 6 = 1 := by kernel_rfl
@[simp] theorem tby_6 : tby Tryd.prog 6 = 1 := by kernel_rfl
@[simp] theorem az_6 : azero Tryd.prog 6 = AV.c (Value.int .u8 0) := by kernel_rfl
@[simp] theorem tk_7 : tk Tryd.prog 7 = .strct := by kernel_rfl
@[simp] theorem tsz_7 : tsz Tryd.prog 7 = 4 := by kernel_rfl
@[simp] theorem tby_7 : tby Tryd.prog 7 = 24 := by kernel_rfl
@[simp] theorem az_7 : azero Tryd.prog 7 = AV.agg [AV.c (Value.int .i64 0), AV.c (Value.int .i64 0), AV.c (Value.bool false), AV.c (Value.int .u8 0)] := by kernel_rfl
@[simp] theorem plc_7 : plc Tryd.prog 7 = some [(0, 1), (1, 1), (2, 1), (3, 1)] := by kernel_rfl
@[simp] theorem tk_8 : tk Tryd.prog 8 = .strct := by kernel_rfl
@[simp] theorem tsz_8 : tsz Tryd.prog 8 = 4 := by kernel_rfl
@[simp] theorem tby_8 : tby Tryd.prog 8 = 24 := by kernel_rfl
@[simp] theorem az_8 : azero Tryd.prog 8 = AV.agg [AV.c (Value.int .i64 0), AV.c (Value.int .i64 0), AV.c (Value.bool false), AV.c (Value.int .u8 0)] := by kernel_rfl
@[simp] theorem plc_8 : plc Tryd.prog 8 = some [(0, 1), (1, 1), (2, 1), (3, 1)] := by kernel_rfl
@[simp] theorem tk_9 : tk Tryd.prog 9 = .str := by kernel_rfl
@[simp] theorem tsz_9 : tsz Tryd.prog 9 = 1 := by kernel_rfl
@[simp] theorem tby_9 : tby Tryd.prog 9 = 16 := by kernel_rfl
@[simp] theorem az_9 : azero Tryd.prog 9 = AV.c (Value.string (⟨#[]⟩ : ByteArray)) := by kernel_rfl
@[simp] theorem tk_10 : tk Tryd.prog 10 = .str := by kernel_rfl
@[simp] theorem tsz_10 : tsz Tryd.prog 10 = 1 := by kernel_rfl
@[simp] theorem tby_10 : tby Tryd.prog 10 = 16 := by kernel_rfl
@[simp] theorem az_10 : azero Tryd.prog 10 = AV.c (Value.string (⟨#[]⟩ : ByteArray)) := by kernel_rfl
@[simp] theorem tk_11 : tk Tryd.prog 11 = .str := by kernel_rfl
@[simp] theorem tsz_11 : tsz Tryd.prog 11 = 1 := by kernel_rfl
@[simp] theorem tby_11 : tby Tryd.prog 11 = 16 := by kernel_rfl
@[simp] theorem az_11 : azero Tryd.prog 11 = AV.c (Value.string (⟨#[]⟩ : ByteArray)) := by kernel_rfl
@[simp] theorem tk_12 : tk Tryd.prog 12 = .int .u64 := by kernel_rfl
@[simp] theorem tsz_12 : tsz Tryd.prog 12 = 1 := by kernel_rfl
@[simp] theorem tby_12 : tby Tryd.prog 12 = 8 := by kernel_rfl
@[simp] theorem az_12 : azero Tryd.prog 12 = AV.c (Value.int .u64 0) := by kernel_rfl
@[simp] theorem tk_13 : tk Tryd.prog 13 = .strct := by kernel_rfl
@[simp] theorem tsz_13 : tsz Tryd.prog 13 = 2 := by kernel_rfl
@[simp] theorem tby_13 : tby Tryd.prog 13 = 24 := by kernel_rfl
@[simp] theorem az_13 : azero Tryd.prog 13 = AV.agg [AV.c (Value.string (⟨#[]⟩ : ByteArray)), AV.c (Value.int .u64 0)] := by kernel_rfl
@[simp] theorem plc_13 : plc Tryd.prog 13 = some [(0, 1), (1, 1)] := by kernel_rfl
@[simp] theorem tk_14 : tk Tryd.prog 14 = .strct := by kernel_rfl
@[simp] theorem tsz_14 : tsz Tryd.prog 14 = 2 := by kernel_rfl
@[simp] theorem tby_14 : tby Tryd.prog 14 = 24 := by kernel_rfl
@[simp] theorem az_14 : azero Tryd.prog 14 = AV.agg [AV.c (Value.string (⟨#[]⟩ : ByteArray)), AV.c (Value.int .u64 0)] := by kernel_rfl
@[simp] theorem plc_14 : plc Tryd.prog 14 = some [(0, 1), (1, 1)] := by kernel_rfl
@[simp] theorem tk_15 : tk Tryd.prog 15 = .ptr 136 := by kernel_rfl
@[simp] theorem tsz_15 : tsz Tryd.prog 15 = 1 := by kernel_rfl
@[simp] theorem tby_15 : tby Tryd.prog 15 = 8 := by kernel_rfl
@[simp] theorem az_15 : azero Tryd.prog 15 = AV.c (Value.pointer none) := by kernel_rfl
@[simp] theorem tk_16 : tk Tryd.prog 16 = .ptr 139 := by kernel_rfl
@[simp] theorem tsz_16 : tsz Tryd.prog 16 = 1 := by kernel_rfl
@[simp] theorem tby_16 : tby Tryd.prog 16 = 8 := by kernel_rfl
@[simp] theorem az_16 : azero Tryd.prog 16 = AV.c (Value.pointer none) := by kernel_rfl
@[simp] theorem tk_17 : tk Tryd.prog 17 = .ptr 146 := by kernel_rfl
@[simp] theorem tsz_17 : tsz Tryd.prog 17 = 1 := by kernel_rfl
@[simp] theorem tby_17 : tby Tryd.prog 17 = 8 := by kernel_rfl
@[simp] theorem az_17 : azero Tryd.prog 17 = AV.c (Value.pointer none) := by kernel_rfl
@[simp] theorem tk_18 : tk Tryd.prog 18 = .strct := by kernel_rfl
@[simp] theorem tsz_18 : tsz Tryd.prog 18 = 1 := by kernel_rfl
@[simp] theorem tby_18 : tby Tryd.prog 18 = 8 := by kernel_rfl
@[simp] theorem az_18 : azero Tryd.prog 18 = AV.agg [AV.c (Value.pointer none)] := by kernel_rfl
@[simp] theorem plc_18 : plc Tryd.prog 18 = some [(0, 1)] := by kernel_rfl
@[simp] theorem tk_19 : tk Tryd.prog 19 = .strct := by kernel_rfl
@[simp] theorem tsz_19 : tsz Tryd.prog 19 = 1 := by kernel_rfl
@[simp] theorem tby_19 : tby Tryd.prog 19 = 8 := by kernel_rfl
@[simp] theorem az_19 : azero Tryd.prog 19 = AV.agg [AV.c (Value.pointer none)] := by kernel_rfl
@[simp] theorem plc_19 : plc Tryd.prog 19 = some [(0, 1)] := by kernel_rfl
@[simp] theorem tk_20 : tk Tryd.prog 20 = .ifc := by kernel_rfl
@[simp] theorem tsz_20 : tsz Tryd.prog 20 = 1 := by kernel_rfl
@[simp] theorem tby_20 : tby Tryd.prog 20 = 16 := by kernel_rfl
@[simp] theorem az_20 : azero Tryd.prog 20 = AV.c Value.nilIface := by kernel_rfl
@[simp] theorem tk_21 : tk Tryd.prog 21 = .int .i32 := by kernel_rfl
@[simp] theorem tsz_21 : tsz Tryd.prog 21 = 1 := by kernel_rfl
@[simp] theorem tby_21 : tby Tryd.prog 21 = 4 := by kernel_rfl
@[simp] theorem az_21 : azero Tryd.prog 21 = AV.c (Value.int .i32 0) := by kernel_rfl
@[simp] theorem tk_22 : tk Tryd.prog 22 = .slc 5 := by kernel_rfl
@[simp] theorem tsz_22 : tsz Tryd.prog 22 = 1 := by kernel_rfl
@[simp] theorem tby_22 : tby Tryd.prog 22 = 24 := by kernel_rfl
@[simp] theorem az_22 : azero Tryd.prog 22 = AV.nl := by kernel_rfl
@[simp] theorem tk_23 : tk Tryd.prog 23 = .slc 37 := by kernel_rfl
@[simp] theorem tsz_23 : tsz Tryd.prog 23 = 1 := by kernel_rfl
@[simp] theorem tby_23 : tby Tryd.prog 23 = 24 := by kernel_rfl
@[simp] theorem az_23 : azero Tryd.prog 23 = AV.nl := by kernel_rfl
@[simp] theorem tk_24 : tk Tryd.prog 24 = .fn := by kernel_rfl
@[simp] theorem tsz_24 : tsz Tryd.prog 24 = 1 := by kernel_rfl
@[simp] theorem tby_24 : tby Tryd.prog 24 = 8 := by kernel_rfl
@[simp] theorem az_24 : azero Tryd.prog 24 = AV.c Value.nilFunc := by kernel_rfl
@[simp] theorem tk_25 : tk Tryd.prog 25 = .fn := by kernel_rfl
@[simp] theorem tsz_25 : tsz Tryd.prog 25 = 1 := by kernel_rfl
@[simp] theorem tby_25 : tby Tryd.prog 25 = 8 := by kernel_rfl
@[simp] theorem az_25 : azero Tryd.prog 25 = AV.c Value.nilFunc := by kernel_rfl
@[simp] theorem tk_26 : tk Tryd.prog 26 = .fn := by kernel_rfl
@[simp] theorem tsz_26 : tsz Tryd.prog 26 = 1 := by kernel_rfl
@[simp] theorem tby_26 : tby Tryd.prog 26 = 8 := by kernel_rfl
@[simp] theorem az_26 : azero Tryd.prog 26 = AV.c Value.nilFunc := by kernel_rfl
@[simp] theorem tk_27 : tk Tryd.prog 27 = .int .i64 := by kernel_rfl
@[simp] theorem tsz_27 : tsz Tryd.prog 27 = 1 := by kernel_rfl
@[simp] theorem tby_27 : tby Tryd.prog 27 = 8 := by kernel_rfl
@[simp] theorem az_27 : azero Tryd.prog 27 = AV.c (Value.int .i64 0) := by kernel_rfl
@[simp] theorem tk_28 : tk Tryd.prog 28 = .other := by kernel_rfl
@[simp] theorem tsz_28 : tsz Tryd.prog 28 = 1 := by kernel_rfl
@[simp] theorem tby_28 : tby Tryd.prog 28 = 0 := by kernel_rfl
@[simp] theorem az_28 : azero Tryd.prog 28 = AV.junk := by kernel_rfl
@[simp] theorem tk_29 : tk Tryd.prog 29 = .fn := by kernel_rfl
@[simp] theorem tsz_29 : tsz Tryd.prog 29 = 1 := by kernel_rfl
@[simp] theorem tby_29 : tby Tryd.prog 29 = 8 := by kernel_rfl
@[simp] theorem az_29 : azero Tryd.prog 29 = AV.c Value.nilFunc := by kernel_rfl
@[simp] theorem tk_30 : tk Tryd.prog 30 = .slc 3 := by kernel_rfl
@[simp] theorem tsz_30 : tsz Tryd.prog 30 = 1 := by kernel_rfl
@[simp] theorem tby_30 : tby Tryd.prog 30 = 24 := by kernel_rfl
@[simp] theorem az_30 : azero Tryd.prog 30 = AV.nl := by kernel_rfl
@[simp] theorem tk_31 : tk Tryd.prog 31 = .other := by kernel_rfl
@[simp] theorem tsz_31 : tsz Tryd.prog 31 = 1 := by kernel_rfl
@[simp] theorem tby_31 : tby Tryd.prog 31 = 0 := by kernel_rfl
@[simp] theorem az_31 : azero Tryd.prog 31 = AV.junk := by kernel_rfl
@[simp] theorem tk_32 : tk Tryd.prog 32 = .fn := by kernel_rfl
@[simp] theorem tsz_32 : tsz Tryd.prog 32 = 1 := by kernel_rfl
@[simp] theorem tby_32 : tby Tryd.prog 32 = 8 := by kernel_rfl
@[simp] theorem az_32 : azero Tryd.prog 32 = AV.c Value.nilFunc := by kernel_rfl
@[simp] theorem tk_33 : tk Tryd.prog 33 = .fn := by kernel_rfl
@[simp] theorem tsz_33 : tsz Tryd.prog 33 = 1 := by kernel_rfl
@[simp] theorem tby_33 : tby Tryd.prog 33 = 8 := by kernel_rfl
@[simp] theorem az_33 : azero Tryd.prog 33 = AV.c Value.nilFunc := by kernel_rfl
@[simp] theorem tk_34 : tk Tryd.prog 34 = .fn := by kernel_rfl
@[simp] theorem tsz_34 : tsz Tryd.prog 34 = 1 := by kernel_rfl
@[simp] theorem tby_34 : tby Tryd.prog 34 = 8 := by kernel_rfl
@[simp] theorem az_34 : azero Tryd.prog 34 = AV.c Value.nilFunc := by kernel_rfl
@[simp] theorem tk_35 : tk Tryd.prog 35 = .fn := by kernel_rfl
@[simp] theorem tsz_35 : tsz Tryd.prog 35 = 1 := by kernel_rfl
@[simp] theorem tby_35 : tby Tryd.prog 35 = 8 := by kernel_rfl
@[simp] theorem az_35 : azero Tryd.prog 35 = AV.c Value.nilFunc := by kernel_rfl
@[simp] theorem tk_36 : tk Tryd.prog 36 = .strct := by kernel_rfl
@[simp] theorem tsz_36 : tsz Tryd.prog 36 = 6 := by kernel_rfl
@[simp] theorem tby_36 : tby Tryd.prog 36 = 72 := by kernel_rfl
@[simp] theorem az_36 : azero Tryd.prog 36 = AV.agg [AV.c (Value.string (⟨#[]⟩ : ByteArray)), AV.c (Value.int .i64 0), AV.c (Value.int .i64 0), AV.c (Value.int .i64 0), AV.c (Value.int .i64 0), AV.nl] := by kernel_rfl
@[simp] theorem plc_36 : plc Tryd.prog 36 = some [(0, 1), (1, 1), (2, 1), (3, 1), (4, 1), (5, 1)] := by kernel_rfl
@[simp] theorem tk_37 : tk Tryd.prog 37 = .strct := by kernel_rfl
@[simp] theorem tsz_37 : tsz Tryd.prog 37 = 6 := by kernel_rfl
@[simp] theorem tby_37 : tby Tryd.prog 37 = 72 := by kernel_rfl
@[simp] theorem az_37 : azero Tryd.prog 37 = AV.agg [AV.c (Value.string (⟨#[]⟩ : ByteArray)), AV.c (Value.int .i64 0), AV.c (Value.int .i64 0), AV.c (Value.int .i64 0), AV.c (Value.int .i64 0), AV.nl] := by kernel_rfl
@[simp] theorem plc_37 : plc Tryd.prog 37 = some [(0, 1), (1, 1), (2, 1), (3, 1), (4, 1), (5, 1)] := by kernel_rfl
@[simp] theorem tk_38 : tk Tryd.prog 38 = .other := by kernel_rfl
@[simp] theorem tsz_38 : tsz Tryd.prog 38 = 1 := by kernel_rfl
@[simp] theorem tby_38 : tby Tryd.prog 38 = 0 := by kernel_rfl
@[simp] theorem az_38 : azero Tryd.prog 38 = AV.junk := by kernel_rfl
@[simp] theorem tk_39 : tk Tryd.prog 39 = .fn := by kernel_rfl
@[simp] theorem tsz_39 : tsz Tryd.prog 39 = 1 := by kernel_rfl
@[simp] theorem tby_39 : tby Tryd.prog 39 = 8 := by kernel_rfl
@[simp] theorem az_39 : azero Tryd.prog 39 = AV.c Value.nilFunc := by kernel_rfl
@[simp] theorem tk_40 : tk Tryd.prog 40 = .fn := by kernel_rfl
@[simp] theorem tsz_40 : tsz Tryd.prog 40 = 1 := by kernel_rfl
@[simp] theorem tby_40 : tby Tryd.prog 40 = 8 := by kernel_rfl
@[simp] theorem az_40 : azero Tryd.prog 40 = AV.c Value.nilFunc := by kernel_rfl
@[simp] theorem tk_41 : tk Tryd.prog 41 = .fn := by kernel_rfl
@[simp] theorem tsz_41 : tsz Tryd.prog 41 = 1 := by kernel_rfl
@[simp] theorem tby_41 : tby Tryd.prog 41 = 8 := by kernel_rfl
@[simp] theorem az_41 : azero Tryd.prog 41 = AV.c Value.nilFunc := by kernel_rfl
@[simp] theorem tk_42 : tk Tryd.prog 42 = .fn := by kernel_rfl
@[simp] theorem tsz_42 : tsz Tryd.prog 42 = 1 := by kernel_rfl
@[simp] theorem tby_42 : tby Tryd.prog 42 = 8 := by kernel_rfl
@[simp] theorem az_42 : azero Tryd.prog 42 = AV.c Value.nilFunc := by kernel_rfl
@[simp] theorem tk_43 : tk Tryd.prog 43 = .ptr 45 := by kernel_rfl
@[simp] theorem tsz_43 : tsz Tryd.prog 43 = 1 := by kernel_rfl
@[simp] theorem tby_43 : tby Tryd.prog 43 = 8 := by kernel_rfl
@[simp] theorem az_43 : azero Tryd.prog 43 = AV.c (Value.pointer none) := by kernel_rfl
@[simp] theorem tk_44 : tk Tryd.prog 44 = .strct := by kernel_rfl
@[simp] theorem tsz_44 : tsz Tryd.prog 44 = 2 := by kernel_rfl
@[simp] theorem tby_44 : tby Tryd.prog 44 = 32 := by kernel_rfl
@[simp] theorem az_44 : azero Tryd.prog 44 = AV.agg [AV.nl, AV.c (Value.int .i64 0)] := by kernel_rfl
@[simp] theorem plc_44 : plc Tryd.prog 44 = some [(0, 1), (1, 1)] := by kernel_rfl
@[simp] theorem tk_45 : tk Tryd.prog 45 = .strct := by kernel_rfl
@[simp] theorem tsz_45 : tsz Tryd.prog 45 = 2 := by kernel_rfl
@[simp] theorem tby_45 : tby Tryd.prog 45 = 32 := by kernel_rfl
@[simp] theorem az_45 : azero Tryd.prog 45 = AV.agg [AV.nl, AV.c (Value.int .i64 0)] := by kernel_rfl
@[simp] theorem plc_45 : plc Tryd.prog 45 = some [(0, 1), (1, 1)] := by kernel_rfl
@[simp] theorem tk_46 : tk Tryd.prog 46 = .fn := by kernel_rfl
@[simp] theorem tsz_46 : tsz Tryd.prog 46 = 1 := by kernel_rfl
@[simp] theorem tby_46 : tby Tryd.prog 46 = 8 := by kernel_rfl
@[simp] theorem az_46 : azero Tryd.prog 46 = AV.c Value.nilFunc := by kernel_rfl
@[simp] theorem tk_47 : tk Tryd.prog 47 = .fn := by kernel_rfl
@[simp] theorem tsz_47 : tsz Tryd.prog 47 = 1 := by kernel_rfl
@[simp] theorem tby_47 : tby Tryd.prog 47 = 8 := by kernel_rfl
@[simp] theorem az_47 : azero Tryd.prog 47 = AV.c Value.nilFunc := by kernel_rfl
@[simp] theorem tk_48 : tk Tryd.prog 48 = .other := by kernel_rfl
@[simp] theorem tsz_48 : tsz Tryd.prog 48 = 1 := by kernel_rfl
@[simp] theorem tby_48 : tby Tryd.prog 48 = 0 := by kernel_rfl
@[simp] theorem az_48 : azero Tryd.prog 48 = AV.junk := by kernel_rfl
@[simp] theorem tk_49 : tk Tryd.prog 49 = .fn := by kernel_rfl
@[simp] theorem tsz_49 : tsz Tryd.prog 49 = 1 := by kernel_rfl
@[simp] theorem tby_49 : tby Tryd.prog 49 = 8 := by kernel_rfl
@[simp] theorem az_49 : azero Tryd.prog 49 = AV.c Value.nilFunc := by kernel_rfl
@[simp] theorem tk_50 : tk Tryd.prog 50 = .slc 9 := by kernel_rfl
@[simp] theorem tsz_50 : tsz Tryd.prog 50 = 1 := by kernel_rfl
@[simp] theorem tby_50 : tby Tryd.prog 50 = 24 := by kernel_rfl
@[simp] theorem az_50 : azero Tryd.prog 50 = AV.nl := by kernel_rfl
@[simp] theorem tk_51 : tk Tryd.prog 51 = .other := by kernel_rfl
@[simp] theorem tsz_51 : tsz Tryd.prog 51 = 1 := by kernel_rfl
@[simp] theorem tby_51 : tby Tryd.prog 51 = 0 := by kernel_rfl
@[simp] theorem az_51 : azero Tryd.prog 51 = AV.junk := by kernel_rfl
@[simp] theorem tk_52 : tk Tryd.prog 52 = .fn := by kernel_rfl
@[simp] theorem tsz_52 : tsz Tryd.prog 52 = 1 := by kernel_rfl
@[simp] theorem tby_52 : tby Tryd.prog 52 = 8 := by kernel_rfl
@[simp] theorem az_52 : azero Tryd.prog 52 = AV.c Value.nilFunc := by kernel_rfl
@[simp] theorem tk_53 : tk Tryd.prog 53 = .fn := by kernel_rfl
@[simp] theorem tsz_53 : tsz Tryd.prog 53 = 1 := by kernel_rfl
@[simp] theorem tby_53 : tby Tryd.prog 53 = 8 := by kernel_rfl
@[simp] theorem az_53 : azero Tryd.prog 53 = AV.c Value.nilFunc := by kernel_rfl
@[simp] theorem tk_54 : tk Tryd.prog 54 = .fn := by kernel_rfl
@[simp] theorem tsz_54 : tsz Tryd.prog 54 = 1 := by kernel_rfl
@[simp] theorem tby_54 : tby Tryd.prog 54 = 8 := by kernel_rfl
@[simp] theorem az_54 : azero Tryd.prog 54 = AV.c Value.nilFunc := by kernel_rfl
@[simp] theorem tk_55 : tk Tryd.prog 55 = .strct := by kernel_rfl
@[simp] theorem tsz_55 : tsz Tryd.prog 55 = 6 := by kernel_rfl
@[simp] theorem tby_55 : tby Tryd.prog 55 = 56 := by kernel_rfl
@[simp] theorem az_55 : azero Tryd.prog 55 = AV.agg [AV.c (Value.string (⟨#[]⟩ : ByteArray)), AV.c (Value.int .i64 0), AV.c (Value.int .i64 0), AV.c (Value.int .i64 0), AV.c (Value.int .i64 0), AV.c (Value.int .i64 0)] := by kernel_rfl
@[simp] theorem plc_55 : plc Tryd.prog 55 = some [(0, 1), (1, 1), (2, 1), (3, 1), (4, 1), (5, 1)] := by kernel_rfl
@[simp] theorem tk_56 : tk Tryd.prog 56 = .strct := by kernel_rfl
@[simp] theorem tsz_56 : tsz Tryd.prog 56 = 6 := by kernel_rfl
@[simp] theorem tby_56 : tby Tryd.prog 56 = 56 := by kernel_rfl
@[simp] theorem az_56 : azero Tryd.prog 56 = AV.agg [AV.c (Value.string (⟨#[]⟩ : ByteArray)), AV.c (Value.int .i64 0), AV.c (Value.int .i64 0), AV.c (Value.int .i64 0), AV.c (Value.int .i64 0), AV.c (Value.int .i64 0)] := by kernel_rfl
@[simp] theorem plc_56 : plc Tryd.prog 56 = some [(0, 1), (1, 1), (2, 1), (3, 1), (4, 1), (5, 1)] := by kernel_rfl
@[simp] theorem tk_57 : tk Tryd.prog 57 = .fn := by kernel_rfl
@[simp] theorem tsz_57 : tsz Tryd.prog 57 = 1 := by kernel_rfl
@[simp] theorem tby_57 : tby Tryd.prog 57 = 8 := by kernel_rfl
@[simp] theorem az_57 : azero Tryd.prog 57 = AV.c Value.nilFunc := by kernel_rfl
@[simp] theorem tk_58 : tk Tryd.prog 58 = .fn := by kernel_rfl
@[simp] theorem tsz_58 : tsz Tryd.prog 58 = 1 := by kernel_rfl
@[simp] theorem tby_58 : tby Tryd.prog 58 = 8 := by kernel_rfl
@[simp] theorem az_58 : azero Tryd.prog 58 = AV.c Value.nilFunc := by kernel_rfl
@[simp] theorem tk_59 : tk Tryd.prog 59 = .fn := by kernel_rfl
@[simp] theorem tsz_59 : tsz Tryd.prog 59 = 1 := by kernel_rfl
@[simp] theorem tby_59 : tby Tryd.prog 59 = 8 := by kernel_rfl
@[simp] theorem az_59 : azero Tryd.prog 59 = AV.c Value.nilFunc := by kernel_rfl
@[simp] theorem tk_60 : tk Tryd.prog 60 = .strct := by kernel_rfl
@[simp] theorem tsz_60 : tsz Tryd.prog 60 = 6 := by kernel_rfl
@[simp] theorem tby_60 : tby Tryd.prog 60 = 56 := by kernel_rfl
@[simp] theorem az_60 : azero Tryd.prog 60 = AV.agg [AV.c (Value.string (⟨#[]⟩ : ByteArray)), AV.c (Value.int .i64 0), AV.c (Value.int .i64 0), AV.c (Value.int .i64 0), AV.c (Value.int .i64 0), AV.c (Value.int .i64 0)] := by kernel_rfl
@[simp] theorem plc_60 : plc Tryd.prog 60 = some [(0, 1), (1, 1), (2, 1), (3, 1), (4, 1), (5, 1)] := by kernel_rfl
@[simp] theorem tk_61 : tk Tryd.prog 61 = .fn := by kernel_rfl
@[simp] theorem tsz_61 : tsz Tryd.prog 61 = 1 := by kernel_rfl
@[simp] theorem tby_61 : tby Tryd.prog 61 = 8 := by kernel_rfl
@[simp] theorem az_61 : azero Tryd.prog 61 = AV.c Value.nilFunc := by kernel_rfl
@[simp] theorem tk_62 : tk Tryd.prog 62 = .other := by kernel_rfl
@[simp] theorem tsz_62 : tsz Tryd.prog 62 = 1 := by kernel_rfl
@[simp] theorem tby_62 : tby Tryd.prog 62 = 0 := by kernel_rfl
@[simp] theorem az_62 : azero Tryd.prog 62 = AV.junk := by kernel_rfl
@[simp] theorem tk_63 : tk Tryd.prog 63 = .fn := by kernel_rfl
@[simp] theorem tsz_63 : tsz Tryd.prog 63 = 1 := by kernel_rfl
@[simp] theorem tby_63 : tby Tryd.prog 63 = 8 := by kernel_rfl
@[simp] theorem az_63 : azero Tryd.prog 63 = AV.c Value.nilFunc := by kernel_rfl
@[simp] theorem tk_64 : tk Tryd.prog 64 = .fn := by kernel_rfl
@[simp] theorem tsz_64 : tsz Tryd.prog 64 = 1 := by kernel_rfl
@[simp] theorem tby_64 : tby Tryd.prog 64 = 8 := by kernel_rfl
@[simp] theorem az_64 : azero Tryd.prog 64 = AV.c Value.nilFunc := by kernel_rfl
@[simp] theorem tk_65 : tk Tryd.prog 65 = .other := by kernel_rfl
@[simp] theorem tsz_65 : tsz Tryd.prog 65 = 1 := by kernel_rfl
@[simp] theorem tby_65 : tby Tryd.prog 65 = 0 := by kernel_rfl
@[simp] theorem az_65 : azero Tryd.prog 65 = AV.junk := by kernel_rfl
@[simp] theorem tk_66 : tk Tryd.prog 66 = .fn := by kernel_rfl
@[simp] theorem tsz_66 : tsz Tryd.prog 66 = 1 := by kernel_rfl
@[simp] theorem tby_66 : tby Tryd.prog 66 = 8 := by kernel_rfl
@[simp] theorem az_66 : azero Tryd.prog 66 = AV.c Value.nilFunc := by kernel_rfl
@[simp] theorem tk_67 : tk Tryd.prog 67 = .fn := by kernel_rfl
@[simp] theorem tsz_67 : tsz Tryd.prog 67 = 1 := by kernel_rfl
@[simp] theorem tby_67 : tby Tryd.prog 67 = 8 := by kernel_rfl
@[simp] theorem az_67 : azero Tryd.prog 67 = AV.c Value.nilFunc := by kernel_rfl
@[simp] theorem tk_68 : tk Tryd.prog 68 = .fn := by kernel_rfl
@[simp] theorem tsz_68 : tsz Tryd.prog 68 = 1 := by kernel_rfl
@[simp] theorem tby_68 : tby Tryd.prog 68 = 8 := by kernel_rfl
@[simp] theorem az_68 : azero Tryd.prog 68 = AV.c Value.nilFunc := by kernel_rfl
@[simp] theorem tk_69 : tk Tryd.prog 69 = .fn := by kernel_rfl
@[simp] theorem tsz_69 : tsz Tryd.prog 69 = 1 := by kernel_rfl
@[simp] theorem tby_69 : tby Tryd.prog 69 = 8 := by kernel_rfl
@[simp] theorem az_69 : azero Tryd.prog 69 = AV.c Value.nilFunc := by kernel_rfl
@[simp] theorem tk_70 : tk Tryd.prog 70 = .other := by kernel_rfl
@[simp] theorem tsz_70 : tsz Tryd.prog 70 = 1 := by kernel_rfl
@[simp] theorem tby_70 : tby Tryd.prog 70 = 0 := by kernel_rfl
@[simp] theorem az_70 : azero Tryd.prog 70 = AV.junk := by kernel_rfl
@[simp] theorem tk_71 : tk Tryd.prog 71 = .fn := by kernel_rfl
@[simp] theorem tsz_71 : tsz Tryd.prog 71 = 1 := by kernel_rfl
@[simp] theorem tby_71 : tby Tryd.prog 71 = 8 := by kernel_rfl
@[simp] theorem az_71 : azero Tryd.prog 71 = AV.c Value.nilFunc := by kernel_rfl
@[simp] theorem tk_72 : tk Tryd.prog 72 = .fn := by kernel_rfl
@[simp] theorem tsz_72 : tsz Tryd.prog 72 = 1 := by kernel_rfl
@[simp] theorem tby_72 : tby Tryd.prog 72 = 8 := by kernel_rfl
@[simp] theorem az_72 : azero Tryd.prog 72 = AV.c Value.nilFunc := by kernel_rfl
@[simp] theorem tk_73 : tk Tryd.prog 73 = .slc 77 := by kernel_rfl
@[simp] theorem tsz_73 : tsz Tryd.prog 73 = 1 := by kernel_rfl
@[simp] theorem tby_73 : tby Tryd.prog 73 = 24 := by kernel_rfl
@[simp] theorem az_73 : azero Tryd.prog 73 = AV.nl := by kernel_rfl
@[simp] theorem tk_74 : tk Tryd.prog 74 = .fn := by kernel_rfl
@[simp] theorem tsz_74 : tsz Tryd.prog 74 = 1 := by kernel_rfl
@[simp] theorem tby_74 : tby Tryd.prog 74 = 8 := by kernel_rfl
@[simp] theorem az_74 : azero Tryd.prog 74 = AV.c Value.nilFunc := by kernel_rfl
@[simp] theorem tk_75 : tk Tryd.prog 75 = .fn := by kernel_rfl
@[simp] theorem tsz_75 : tsz Tryd.prog 75 = 1 := by kernel_rfl
@[simp] theorem tby_75 : tby Tryd.prog 75 = 8 := by kernel_rfl
@[simp] theorem az_75 : azero Tryd.prog 75 = AV.c Value.nilFunc := by kernel_rfl
@[simp] theorem tk_76 : tk Tryd.prog 76 = .strct := by kernel_rfl
@[simp] theorem tsz_76 : tsz Tryd.prog 76 = 4 := by kernel_rfl
@[simp] theorem tby_76 : tby Tryd.prog 76 = 32 := by kernel_rfl
@[simp] theorem az_76 : azero Tryd.prog 76 = AV.agg [AV.c (Value.int .i64 0), AV.c (Value.int .i64 0), AV.c (Value.bool false), AV.c Value.nilFunc] := by kernel_rfl
@[simp] theorem plc_76 : plc Tryd.prog 76 = some [(0, 1), (1, 1), (2, 1), (3, 1)] := by kernel_rfl
@[simp] theorem tk_77 : tk Tryd.prog 77 = .strct := by kernel_rfl
@[simp] theorem tsz_77 : tsz Tryd.prog 77 = 4 := by kernel_rfl
@[simp] theorem tby_77 : tby Tryd.prog 77 = 32 := by kernel_rfl
@[simp] theorem az_77 : azero Tryd.prog 77 = AV.agg [AV.c (Value.int .i64 0), AV.c (Value.int .i64 0), AV.c (Value.bool false), AV.c Value.nilFunc] := by kernel_rfl
@[simp] theorem plc_77 : plc Tryd.prog 77 = some [(0, 1), (1, 1), (2, 1), (3, 1)] := by kernel_rfl
@[simp] theorem tk_78 : tk Tryd.prog 78 = .ptr 3 := by kernel_rfl
@[simp] theorem tsz_78 : tsz Tryd.prog 78 = 1 := by kernel_rfl
@[simp] theorem tby_78 : tby Tryd.prog 78 = 8 := by kernel_rfl
@[simp] theorem az_78 : azero Tryd.prog 78 = AV.c (Value.pointer none) := by kernel_rfl
@[simp] theorem tk_79 : tk Tryd.prog 79 = .ptr 60 := by kernel_rfl
@[simp] theorem tsz_79 : tsz Tryd.prog 79 = 1 := by kernel_rfl
@[simp] theorem tby_79 : tby Tryd.prog 79 = 8 := by kernel_rfl
@[simp] theorem az_79 : azero Tryd.prog 79 = AV.c (Value.pointer none) := by kernel_rfl
@[simp] theorem tk_80 : tk Tryd.prog 80 = .fn := by kernel_rfl
@[simp] theorem tsz_80 : tsz Tryd.prog 80 = 1 := by kernel_rfl
@[simp] theorem tby_80 : tby Tryd.prog 80 = 8 := by kernel_rfl
@[simp] theorem az_80 : azero Tryd.prog 80 = AV.c Value.nilFunc := by kernel_rfl
@[simp] theorem tk_81 : tk Tryd.prog 81 = .other := by kernel_rfl
@[simp] theorem tsz_81 : tsz Tryd.prog 81 = 1 := by kernel_rfl
@[simp] theorem tby_81 : tby Tryd.prog 81 = 0 := by kernel_rfl
@[simp] theorem az_81 : azero Tryd.prog 81 = AV.junk := by kernel_rfl
@[simp] theorem tk_82 : tk Tryd.prog 82 = .fn := by kernel_rfl
@[simp] theorem tsz_82 : tsz Tryd.prog 82 = 1 := by kernel_rfl
@[simp] theorem tby_82 : tby Tryd.prog 82 = 8 := by kernel_rfl
@[simp] theorem az_82 : azero Tryd.prog 82 = AV.c Value.nilFunc := by kernel_rfl
@[simp] theorem tk_83 : tk Tryd.prog 83 = .fn := by kernel_rfl
@[simp] theorem tsz_83 : tsz Tryd.prog 83 = 1 := by kernel_rfl
@[simp] theorem tby_83 : tby Tryd.prog 83 = 8 := by kernel_rfl
@[simp] theorem az_83 : azero Tryd.prog 83 = AV.c Value.nilFunc := by kernel_rfl
@[simp] theorem tk_84 : tk Tryd.prog 84 = .fn := by kernel_rfl
@[simp] theorem tsz_84 : tsz Tryd.prog 84 = 1 := by kernel_rfl
@[simp] theorem tby_84 : tby Tryd.prog 84 = 8 := by kernel_rfl
@[simp] theorem az_84 : azero Tryd.prog 84 = AV.c Value.nilFunc := by kernel_rfl
@[simp] theorem tk_85 : tk Tryd.prog 85 = .fn := by kernel_rfl
@[simp] theorem tsz_85 : tsz Tryd.prog 85 = 1 := by kernel_rfl
@[simp] theorem tby_85 : tby Tryd.prog 85 = 8 := by kernel_rfl
@[simp] theorem az_85 : azero Tryd.prog 85 = AV.c Value.nilFunc := by kernel_rfl
@[simp] theorem tk_86 : tk Tryd.prog 86 = .int .u64 := by kernel_rfl
@[simp] theorem tsz_86 : tsz Tryd.prog 86 = 1 := by kernel_rfl
@[simp] theorem tby_86 : tby Tryd.prog 86 = 8 := by kernel_rfl
@[simp] theorem az_86 : azero Tryd.prog 86 = AV.c (Value.int .u64 0) := by kernel_rfl
@[simp] theorem tk_87 : tk Tryd.prog 87 = .other := by kernel_rfl
@[simp] theorem tsz_87 : tsz Tryd.prog 87 = 1 := by kernel_rfl
@[simp] theorem tby_87 : tby Tryd.prog 87 = 0 := by kernel_rfl
@[simp] theorem az_87 : azero Tryd.prog 87 = AV.junk := by kernel_rfl
@[simp] theorem tk_88 : tk Tryd.prog 88 = .fn := by kernel_rfl
@[simp] theorem tsz_88 : tsz Tryd.prog 88 = 1 := by kernel_rfl
@[simp] theorem tby_88 : tby Tryd.prog 88 = 8 := by kernel_rfl
@[simp] theorem az_88 : azero Tryd.prog 88 = AV.c Value.nilFunc := by kernel_rfl
@[simp] theorem tk_89 : tk Tryd.prog 89 = .ptr 91 := by kernel_rfl
@[simp] theorem tsz_89 : tsz Tryd.prog 89 = 1 := by kernel_rfl
@[simp] theorem tby_89 : tby Tryd.prog 89 = 8 := by kernel_rfl
@[simp] theorem az_89 : azero Tryd.prog 89 = AV.c (Value.pointer none) := by kernel_rfl
@[simp] theorem tk_90 : tk Tryd.prog 90 = .strct := by kernel_rfl
@[simp] theorem tsz_90 : tsz Tryd.prog 90 = 2 := by kernel_rfl
@[simp] theorem tby_90 : tby Tryd.prog 90 = 32 := by kernel_rfl
@[simp] theorem az_90 : azero Tryd.prog 90 = AV.agg [AV.c (Value.pointer none), AV.nl] := by kernel_rfl
@[simp] theorem plc_90 : plc Tryd.prog 90 = some [(0, 1), (1, 1)] := by kernel_rfl
@[simp] theorem tk_91 : tk Tryd.prog 91 = .strct := by kernel_rfl
@[simp] theorem tsz_91 : tsz Tryd.prog 91 = 2 := by kernel_rfl
@[simp] theorem tby_91 : tby Tryd.prog 91 = 32 := by kernel_rfl
@[simp] theorem az_91 : azero Tryd.prog 91 = AV.agg [AV.c (Value.pointer none), AV.nl] := by kernel_rfl
@[simp] theorem plc_91 : plc Tryd.prog 91 = some [(0, 1), (1, 1)] := by kernel_rfl
@[simp] theorem tk_92 : tk Tryd.prog 92 = .fn := by kernel_rfl
@[simp] theorem tsz_92 : tsz Tryd.prog 92 = 1 := by kernel_rfl
@[simp] theorem tby_92 : tby Tryd.prog 92 = 8 := by kernel_rfl
@[simp] theorem az_92 : azero Tryd.prog 92 = AV.c Value.nilFunc := by kernel_rfl
@[simp] theorem tk_93 : tk Tryd.prog 93 = .ifc := by kernel_rfl
@[simp] theorem tsz_93 : tsz Tryd.prog 93 = 1 := by kernel_rfl
@[simp] theorem tby_93 : tby Tryd.prog 93 = 16 := by kernel_rfl
@[simp] theorem az_93 : azero Tryd.prog 93 = AV.c Value.nilIface := by kernel_rfl
@[simp] theorem tk_94 : tk Tryd.prog 94 = .ifc := by kernel_rfl
@[simp] theorem tsz_94 : tsz Tryd.prog 94 = 1 := by kernel_rfl
@[simp] theorem tby_94 : tby Tryd.prog 94 = 16 := by kernel_rfl
@[simp] theorem az_94 : azero Tryd.prog 94 = AV.c Value.nilIface := by kernel_rfl
@[simp] theorem tk_95 : tk Tryd.prog 95 = .other := by kernel_rfl
@[simp] theorem tsz_95 : tsz Tryd.prog 95 = 1 := by kernel_rfl
@[simp] theorem tby_95 : tby Tryd.prog 95 = 0 := by kernel_rfl
@[simp] theorem az_95 : azero Tryd.prog 95 = AV.junk := by kernel_rfl
@[simp] theorem tk_96 : tk Tryd.prog 96 = .fn := by kernel_rfl
@[simp] theorem tsz_96 : tsz Tryd.prog 96 = 1 := by kernel_rfl
@[simp] theorem tby_96 : tby Tryd.prog 96 = 8 := by kernel_rfl
@[simp] theorem az_96 : azero Tryd.prog 96 = AV.c Value.nilFunc := by kernel_rfl
@[simp] theorem tk_97 : tk Tryd.prog 97 = .fn := by kernel_rfl
@[simp] theorem tsz_97 : tsz Tryd.prog 97 = 1 := by kernel_rfl
@[simp] theorem tby_97 : tby Tryd.prog 97 = 8 := by kernel_rfl
@[simp] theorem az_97 : azero Tryd.prog 97 = AV.c Value.nilFunc := by kernel_rfl
@[simp] theorem tk_98 : tk Tryd.prog 98 = .fn := by kernel_rfl
@[simp] theorem tsz_98 : tsz Tryd.prog 98 = 1 := by kernel_rfl
@[simp] theorem tby_98 : tby Tryd.prog 98 = 8 := by kernel_rfl
@[simp] theorem az_98 : azero Tryd.prog 98 = AV.c Value.nilFunc := by kernel_rfl
@[simp] theorem tk_99 : tk Tryd.prog 99 = .arr 5 77 := by kernel_rfl
@[simp] theorem tsz_99 : tsz Tryd.prog 99 = 20 := by kernel_rfl
@[simp] theorem tby_99 : tby Tryd.prog 99 = 160 := by kernel_rfl
@[simp] theorem az_99 : azero Tryd.prog 99 = AV.agg [AV.c (Value.int .i64 0), AV.c (Value.int .i64 0), AV.c (Value.bool false), AV.c Value.nilFunc, AV.c (Value.int .i64 0), AV.c (Value.int .i64 0), AV.c (Value.bool false), AV.c Value.nilFunc, AV.c (Value.int .i64 0), AV.c (Value.int .i64 0), AV.c (Value.bool false), AV.c Value.nilFunc, AV.c (Value.int .i64 0), AV.c (Value.int .i64 0), AV.c (Value.bool false), AV.c Value.nilFunc, AV.c (Value.int .i64 0), AV.c (Value.int .i64 0), AV.c (Value.bool false), AV.c Value.nilFunc] := by kernel_rfl
@[simp] theorem plc_99 : plc Tryd.prog 99 = some [(0, 4), (4, 4), (8, 4), (12, 4), (16, 4)] := by kernel_rfl
@[simp] theorem tk_100 : tk Tryd.prog 100 = .fn := by kernel_rfl
@[simp] theorem tsz_100 : tsz Tryd.prog 100 = 1 := by kernel_rfl
@[simp] theorem tby_100 : tby Tryd.prog 100 = 8 := by kernel_rfl
@[simp] theorem az_100 : azero Tryd.prog 100 = AV.c Value.nilFunc := by kernel_rfl
@[simp] theorem tk_101 : tk Tryd.prog 101 = .fn := by kernel_rfl
@[simp] theorem tsz_101 : tsz Tryd.prog 101 = 1 := by kernel_rfl
@[simp] theorem tby_101 : tby Tryd.prog 101 = 8 := by kernel_rfl
@[simp] theorem az_101 : azero Tryd.prog 101 = AV.c Value.nilFunc := by kernel_rfl
@[simp] theorem tk_102 : tk Tryd.prog 102 = .fn := by kernel_rfl
@[simp] theorem tsz_102 : tsz Tryd.prog 102 = 1 := by kernel_rfl
@[simp] theorem tby_102 : tby Tryd.prog 102 = 8 := by kernel_rfl
@[simp] theorem az_102 : azero Tryd.prog 102 = AV.c Value.nilFunc := by kernel_rfl
@[simp] theorem tk_103 : tk Tryd.prog 103 = .fn := by kernel_rfl
@[simp] theorem tsz_103 : tsz Tryd.prog 103 = 1 := by kernel_rfl
@[simp] theorem tby_103 : tby Tryd.prog 103 = 8 := by kernel_rfl
@[simp] theorem az_103 : azero Tryd.prog 103 = AV.c Value.nilFunc := by kernel_rfl
@[simp] theorem tk_104 : tk Tryd.prog 104 = .arr 256 4 := by kernel_rfl
@[simp] theorem tsz_104 : tsz Tryd.prog 104 = 256 := by kernel_rfl
@[simp] theorem tby_104 : tby Tryd.prog 104 = 256 := by kernel_rfl
@[simp] theorem tk_105 : tk Tryd.prog 105 = .arr 256 4 := by kernel_rfl
@[simp] theorem tsz_105 : tsz Tryd.prog 105 = 256 := by kernel_rfl
@[simp] theorem tby_105 : tby Tryd.prog 105 = 256 := by kernel_rfl
@[simp] theorem tk_106 : tk Tryd.prog 106 = .other := by kernel_rfl
@[simp] theorem tsz_106 : tsz Tryd.prog 106 = 1 := by kernel_rfl
@[simp] theorem tby_106 : tby Tryd.prog 106 = 0 := by kernel_rfl
@[simp] theorem az_106 : azero Tryd.prog 106 = AV.junk := by kernel_rfl
@[simp] theorem tk_107 : tk Tryd.prog 107 = .fn := by kernel_rfl
@[simp] theorem tsz_107 : tsz Tryd.prog 107 = 1 := by kernel_rfl
@[simp] theorem tby_107 : tby Tryd.prog 107 = 8 := by kernel_rfl
@[simp] theorem az_107 : azero Tryd.prog 107 = AV.c Value.nilFunc := by kernel_rfl
@[simp] theorem tk_108 : tk Tryd.prog 108 = .fn := by kernel_rfl
@[simp] theorem tsz_108 : tsz Tryd.prog 108 = 1 := by kernel_rfl
@[simp] theorem tby_108 : tby Tryd.prog 108 = 8 := by kernel_rfl
@[simp] theorem az_108 : azero Tryd.prog 108 = AV.c Value.nilFunc := by kernel_rfl
@[simp] theorem tk_109 : tk Tryd.prog 109 = .int .u32 := by kernel_rfl
@[simp] theorem tsz_109 : tsz Tryd.prog 109 = 1 := by kernel_rfl
@[simp] theorem tby_109 : tby Tryd.prog 109 = 4 := by kernel_rfl
@[simp] theorem az_109 : azero Tryd.prog 109 = AV.c (Value.int .u32 0) := by kernel_rfl
@[simp] theorem tk_110 : tk Tryd.prog 110 = .other := by kernel_rfl
@[simp] theorem tsz_110 : tsz Tryd.prog 110 = 1 := by kernel_rfl
@[simp] theorem tby_110 : tby Tryd.prog 110 = 0 := by kernel_rfl
@[simp] theorem az_110 : azero Tryd.prog 110 = AV.junk := by kernel_rfl
@[simp] theorem tk_111 : tk Tryd.prog 111 = .fn := by kernel_rfl
@[simp] theorem tsz_111 : tsz Tryd.prog 111 = 1 := by kernel_rfl
@[simp] theorem tby_111 : tby Tryd.prog 111 = 8 := by kernel_rfl
@[simp] theorem az_111 : azero Tryd.prog 111 = AV.c Value.nilFunc := by kernel_rfl
@[simp] theorem tk_112 : tk Tryd.prog 112 = .int .u64 := by kernel_rfl
@[simp] theorem tsz_112 : tsz Tryd.prog 112 = 1 := by kernel_rfl
@[simp] theorem tby_112 : tby Tryd.prog 112 = 8 := by kernel_rfl
@[simp] theorem az_112 : azero Tryd.prog 112 = AV.c (Value.int .u64 0) := by kernel_rfl
@[simp] theorem tk_113 : tk Tryd.prog 113 = .other := by kernel_rfl
@[simp] theorem tsz_113 : tsz Tryd.prog 113 = 1 := by kernel_rfl
@[simp] theorem tby_113 : tby Tryd.prog 113 = 0 := by kernel_rfl
@[simp] theorem az_113 : azero Tryd.prog 113 = AV.junk := by kernel_rfl
@[simp] theorem tk_114 : tk Tryd.prog 114 = .fn := by kernel_rfl
@[simp] theorem tsz_114 : tsz Tryd.prog 114 = 1 := by kernel_rfl
@[simp] theorem tby_114 : tby Tryd.prog 114 = 8 := by kernel_rfl
@[simp] theorem az_114 : azero Tryd.prog 114 = AV.c Value.nilFunc := by kernel_rfl
@[simp] theorem tk_115 : tk Tryd.prog 115 = .ptr 5 := by kernel_rfl
@[simp] theorem tsz_115 : tsz Tryd.prog 115 = 1 := by kernel_rfl
@[simp] theorem tby_115 : tby Tryd.prog 115 = 8 := by kernel_rfl
@[simp] theorem az_115 : azero Tryd.prog 115 = AV.c (Value.pointer none) := by kernel_rfl
@[simp] theorem tk_116 : tk Tryd.prog 116 = .fn := by kernel_rfl
@[simp] theorem tsz_116 : tsz Tryd.prog 116 = 1 := by kernel_rfl
@[simp] theorem tby_116 : tby Tryd.prog 116 = 8 := by kernel_rfl
@[simp] theorem az_116 : azero Tryd.prog 116 = AV.c Value.nilFunc := by kernel_rfl
@[simp] theorem tk_117 : tk Tryd.prog 117 = .fn := by kernel_rfl
@[simp] theorem tsz_117 : tsz Tryd.prog 117 = 1 := by kernel_rfl
@[simp] theorem tby_117 : tby Tryd.prog 117 = 8 := by kernel_rfl
@[simp] theorem az_117 : azero Tryd.prog 117 = AV.c Value.nilFunc := by kernel_rfl
@[simp] theorem tk_118 : tk Tryd.prog 118 = .fn := by kernel_rfl
@[simp] theorem tsz_118 : tsz Tryd.prog 118 = 1 := by kernel_rfl
@[simp] theorem tby_118 : tby Tryd.prog 118 = 8 := by kernel_rfl
@[simp] theorem az_118 : azero Tryd.prog 118 = AV.c Value.nilFunc := by kernel_rfl
@[simp] theorem tk_119 : tk Tryd.prog 119 = .ptr 105 := by kernel_rfl
@[simp] theorem tsz_119 : tsz Tryd.prog 119 = 1 := by kernel_rfl
@[simp] theorem tby_119 : tby Tryd.prog 119 = 8 := by kernel_rfl
@[simp] theorem az_119 : azero Tryd.prog 119 = AV.c (Value.pointer none) := by kernel_rfl
@[simp] theorem tk_120 : tk Tryd.prog 120 = .fn := by kernel_rfl
@[simp] theorem tsz_120 : tsz Tryd.prog 120 = 1 := by kernel_rfl
@[simp] theorem tby_120 : tby Tryd.prog 120 = 8 := by kernel_rfl
@[simp] theorem az_120 : azero Tryd.prog 120 = AV.c Value.nilFunc := by kernel_rfl
@[simp] theorem tk_121 : tk Tryd.prog 121 = .other := by kernel_rfl
@[simp] theorem tsz_121 : tsz Tryd.prog 121 = 1 := by kernel_rfl
@[simp] theorem tby_121 : tby Tryd.prog 121 = 8 := by kernel_rfl
@[simp] theorem az_121 : azero Tryd.prog 121 = AV.c (Value.pointer none) := by kernel_rfl
@[simp] theorem tk_122 : tk Tryd.prog 122 = .fn := by kernel_rfl
@[simp] theorem tsz_122 : tsz Tryd.prog 122 = 1 := by kernel_rfl
@[simp] theorem tby_122 : tby Tryd.prog 122 = 8 := by kernel_rfl
@[simp] theorem az_122 : azero Tryd.prog 122 = AV.c Value.nilFunc := by kernel_rfl
@[simp] theorem tk_123 : tk Tryd.prog 123 = .arr 24 5 := by kernel_rfl
@[simp] theorem tsz_123 : tsz Tryd.prog 123 = 24 := by kernel_rfl
@[simp] theorem tby_123 : tby Tryd.prog 123 = 24 := by kernel_rfl
@[simp] theorem az_123 : azero Tryd.prog 123 = AV.agg [AV.c (Value.int .u8 0), AV.c (Value.int .u8 0), AV.c (Value.int .u8 0), AV.c (Value.int .u8 0), AV.c (Value.int .u8 0), AV.c (Value.int .u8 0), AV.c (Value.int .u8 0), AV.c (Value.int .u8 0), AV.c (Value.int .u8 0), AV.c (Value.int .u8 0), AV.c (Value.int .u8 0), AV.c (Value.int .u8 0), AV.c (Value.int .u8 0), AV.c (Value.int .u8 0), AV.c (Value.int .u8 0), AV.c (Value.int .u8 0), AV.c (Value.int .u8 0), AV.c (Value.int .u8 0), AV.c (Value.int .u8 0), AV.c (Value.int .u8 0), AV.c (Value.int .u8 0), AV.c (Value.int .u8 0), AV.c (Value.int .u8 0), AV.c (Value.int .u8 0)] := by kernel_rfl
@[simp] theorem plc_123 : plc Tryd.prog 123 = some [(0, 1), (1, 1), (2, 1), (3, 1), (4, 1), (5, 1), (6, 1), (7, 1), (8, 1), (9, 1), (10, 1), (11, 1), (12, 1), (13, 1), (14, 1), (15, 1), (16, 1), (17, 1), (18, 1), (19, 1), (20, 1), (21, 1), (22, 1), (23, 1)] := by kernel_rfl
@[simp] theorem tk_124 : tk Tryd.prog 124 = .fn := by kernel_rfl
@[simp] theorem tsz_124 : tsz Tryd.prog 124 = 1 := by kernel_rfl
@[simp] theorem tby_124 : tby Tryd.prog 124 = 8 := by kernel_rfl
@[simp] theorem az_124 : azero Tryd.prog 124 = AV.c Value.nilFunc := by kernel_rfl
@[simp] theorem tk_125 : tk Tryd.prog 125 = .fn := by kernel_rfl
@[simp] theorem tsz_125 : tsz Tryd.prog 125 = 1 := by kernel_rfl
@[simp] theorem tby_125 : tby Tryd.prog 125 = 8 := by kernel_rfl
@[simp] theorem az_125 : azero Tryd.prog 125 = AV.c Value.nilFunc := by kernel_rfl
@[simp] theorem tk_126 : tk Tryd.prog 126 = .other := by kernel_rfl
@[simp] theorem tsz_126 : tsz Tryd.prog 126 = 1 := by kernel_rfl
@[simp] theorem tby_126 : tby Tryd.prog 126 = 0 := by kernel_rfl
@[simp] theorem az_126 : azero Tryd.prog 126 = AV.junk := by kernel_rfl
@[simp] theorem tk_127 : tk Tryd.prog 127 = .fn := by kernel_rfl
@[simp] theorem tsz_127 : tsz Tryd.prog 127 = 1 := by kernel_rfl
@[simp] theorem tby_127 : tby Tryd.prog 127 = 8 := by kernel_rfl
@[simp] theorem az_127 : azero Tryd.prog 127 = AV.c Value.nilFunc := by kernel_rfl
@[simp] theorem tk_128 : tk Tryd.prog 128 = .fn := by kernel_rfl
@[simp] theorem tsz_128 : tsz Tryd.prog 128 = 1 := by kernel_rfl
@[simp] theorem tby_128 : tby Tryd.prog 128 = 8 := by kernel_rfl
@[simp] theorem az_128 : azero Tryd.prog 128 = AV.c Value.nilFunc := by kernel_rfl
@[simp] theorem tk_129 : tk Tryd.prog 129 = .arr 20 112 := by kernel_rfl
@[simp] theorem tsz_129 : tsz Tryd.prog 129 = 20 := by kernel_rfl
@[simp] theorem tby_129 : tby Tryd.prog 129 = 160 := by kernel_rfl
@[simp] theorem az_129 : azero Tryd.prog 129 = AV.agg [AV.c (Value.int .u64 0), AV.c (Value.int .u64 0), AV.c (Value.int .u64 0), AV.c (Value.int .u64 0), AV.c (Value.int .u64 0), AV.c (Value.int .u64 0), AV.c (Value.int .u64 0), AV.c (Value.int .u64 0), AV.c (Value.int .u64 0), AV.c (Value.int .u64 0), AV.c (Value.int .u64 0), AV.c (Value.int .u64 0), AV.c (Value.int .u64 0), AV.c (Value.int .u64 0), AV.c (Value.int .u64 0), AV.c (Value.int .u64 0), AV.c (Value.int .u64 0), AV.c (Value.int .u64 0), AV.c (Value.int .u64 0), AV.c (Value.int .u64 0)] := by kernel_rfl
@[simp] theorem plc_129 : plc Tryd.prog 129 = some [(0, 1), (1, 1), (2, 1), (3, 1), (4, 1), (5, 1), (6, 1), (7, 1), (8, 1), (9, 1), (10, 1), (11, 1), (12, 1), (13, 1), (14, 1), (15, 1), (16, 1), (17, 1), (18, 1), (19, 1)] := by kernel_rfl
@[simp] theorem tk_130 : tk Tryd.prog 130 = .arr 65 5 := by kernel_rfl
@[simp] theorem tsz_130 : tsz Tryd.prog 130 = 65 := by kernel_rfl
@[simp] theorem tby_130 : tby Tryd.prog 130 = 65 := by kernel_rfl
@[simp] theorem az_130 : azero Tryd.prog 130 = AV.agg [AV.c (Value.int .u8 0), AV.c (Value.int .u8 0), AV.c (Value.int .u8 0), AV.c (Value.int .u8 0), AV.c (Value.int .u8 0), AV.c (Value.int .u8 0), AV.c (Value.int .u8 0), AV.c (Value.int .u8 0), AV.c (Value.int .u8 0), AV.c (Value.int .u8 0), AV.c (Value.int .u8 0), AV.c (Value.int .u8 0), AV.c (Value.int .u8 0), AV.c (Value.int .u8 0), AV.c (Value.int .u8 0), AV.c (Value.int .u8 0), AV.c (Value.int .u8 0), AV.c (Value.int .u8 0), AV.c (Value.int .u8 0), AV.c (Value.int .u8 0), AV.c (Value.int .u8 0), AV.c (Value.int .u8 0), AV.c (Value.int .u8 0), AV.c (Value.int .u8 0), AV.c (Value.int .u8 0), AV.c (Value.int .u8 0), AV.c (Value.int .u8 0), AV.c (Value.int .u8 0), AV.c (Value.int .u8 0), AV.c (Value.int .u8 0), AV.c (Value.int .u8 0), AV.c (Value.int .u8 0), AV.c (Value.int .u8 0), AV.c (Value.int .u8 0), AV.c (Value.int .u8 0), AV.c (Value.int .u8 0), AV.c (Value.int .u8 0), AV.c (Value.int .u8 0), AV.c (Value.int .u8 0), AV.c (Value.int .u8 0), AV.c (Value.int .u8 0), AV.c (Value.int .u8 0), AV.c (Value.int .u8 0), AV.c (Value.int .u8 0), AV.c (Value.int .u8 0), AV.c (Value.int .u8 0), AV.c (Value.int .u8 0), AV.c (Value.int .u8 0), AV.c (Value.int .u8 0), AV.c (Value.int .u8 0), AV.c (Value.int .u8 0), AV.c (Value.int .u8 0), AV.c (Value.int .u8 0), AV.c (Value.int .u8 0), AV.c (Value.int .u8 0), AV.c (Value.int .u8 0), AV.c (Value.int .u8 0), AV.c (Value.int .u8 0), AV.c (Value.int .u8 0), AV.c (Value.int .u8 0), AV.c (Value.int .u8 0), AV.c (Value.int .u8 0), AV.c (Value.int .u8 0), AV.c (Value.int .u8 0), AV.c (Value.int .u8 0)] := by kernel_rfl
@[simp] theorem plc_130 : plc Tryd.prog 130 = some [(0, 1), (1, 1), (2, 1), (3, 1), (4, 1), (5, 1), (6, 1), (7, 1), (8, 1), (9, 1), (10, 1), (11, 1), (12, 1), (13, 1), (14, 1), (15, 1), (16, 1), (17, 1), (18, 1), (19, 1), (20, 1), (21, 1), (22, 1), (23, 1), (24, 1), (25, 1), (26, 1), (27, 1), (28, 1), (29, 1), (30, 1), (31, 1), (32, 1), (33, 1), (34, 1), (35, 1), (36, 1), (37, 1), (38, 1), (39, 1), (40, 1), (41, 1), (42, 1), (43, 1), (44, 1), (45, 1), (46, 1), (47, 1), (48, 1), (49, 1), (50, 1), (51, 1), (52, 1), (53, 1), (54, 1), (55, 1), (56, 1), (57, 1), (58, 1), (59, 1), (60, 1), (61, 1), (62, 1), (63, 1), (64, 1)] := by kernel_rfl
@[simp] theorem tk_131 : tk Tryd.prog 131 = .fn := by kernel_rfl
@[simp] theorem tsz_131 : tsz Tryd.prog 131 = 1 := by kernel_rfl
@[simp] theorem tby_131 : tby Tryd.prog 131 = 8 := by kernel_rfl
@[simp] theorem az_131 : azero Tryd.prog 131 = AV.c Value.nilFunc := by kernel_rfl
@[simp] theorem tk_132 : tk Tryd.prog 132 = .fn := by kernel_rfl
@[simp] theorem tsz_132 : tsz Tryd.prog 132 = 1 := by kernel_rfl
@[simp] theorem tby_132 : tby Tryd.prog 132 = 8 := by kernel_rfl
@[simp] theorem az_132 : azero Tryd.prog 132 = AV.c Value.nilFunc := by kernel_rfl
@[simp] theorem tk_133 : tk Tryd.prog 133 = .arr 32 5 := by kernel_rfl
@[simp] theorem tsz_133 : tsz Tryd.prog 133 = 32 := by kernel_rfl
@[simp] theorem tby_133 : tby Tryd.prog 133 = 32 := by kernel_rfl
@[simp] theorem az_133 : azero Tryd.prog 133 = AV.agg [AV.c (Value.int .u8 0), AV.c (Value.int .u8 0), AV.c (Value.int .u8 0), AV.c (Value.int .u8 0), AV.c (Value.int .u8 0), AV.c (Value.int .u8 0), AV.c (Value.int .u8 0), AV.c (Value.int .u8 0), AV.c (Value.int .u8 0), AV.c (Value.int .u8 0), AV.c (Value.int .u8 0), AV.c (Value.int .u8 0), AV.c (Value.int .u8 0), AV.c (Value.int .u8 0), AV.c (Value.int .u8 0), AV.c (Value.int .u8 0), AV.c (Value.int .u8 0), AV.c (Value.int .u8 0), AV.c (Value.int .u8 0), AV.c (Value.int .u8 0), AV.c (Value.int .u8 0), AV.c (Value.int .u8 0), AV.c (Value.int .u8 0), AV.c (Value.int .u8 0), AV.c (Value.int .u8 0), AV.c (Value.int .u8 0), AV.c (Value.int .u8 0), AV.c (Value.int .u8 0), AV.c (Value.int .u8 0), AV.c (Value.int .u8 0), AV.c (Value.int .u8 0), AV.c (Value.int .u8 0)] := by kernel_rfl
@[simp] theorem plc_133 : plc Tryd.prog 133 = some [(0, 1), (1, 1), (2, 1), (3, 1), (4, 1), (5, 1), (6, 1), (7, 1), (8, 1), (9, 1), (10, 1), (11, 1), (12, 1), (13, 1), (14, 1), (15, 1), (16, 1), (17, 1), (18, 1), (19, 1), (20, 1), (21, 1), (22, 1), (23, 1), (24, 1), (25, 1), (26, 1), (27, 1), (28, 1), (29, 1), (30, 1), (31, 1)] := by kernel_rfl
@[simp] theorem tk_134 : tk Tryd.prog 134 = .arr 64 5 := by kernel_rfl
@[simp] theorem tsz_134 : tsz Tryd.prog 134 = 64 := by kernel_rfl
@[simp] theorem tby_134 : tby Tryd.prog 134 = 64 := by kernel_rfl
@[simp] theorem az_134 : azero Tryd.prog 134 = AV.agg [AV.c (Value.int .u8 0), AV.c (Value.int .u8 0), AV.c (Value.int .u8 0), AV.c (Value.int .u8 0), AV.c (Value.int .u8 0), AV.c (Value.int .u8 0), AV.c (Value.int .u8 0), AV.c (Value.int .u8 0), AV.c (Value.int .u8 0), AV.c (Value.int .u8 0), AV.c (Value.int .u8 0), AV.c (Value.int .u8 0), AV.c (Value.int .u8 0), AV.c (Value.int .u8 0), AV.c (Value.int .u8 0), AV.c (Value.int .u8 0), AV.c (Value.int .u8 0), AV.c (Value.int .u8 0), AV.c (Value.int .u8 0), AV.c (Value.int .u8 0), AV.c (Value.int .u8 0), AV.c (Value.int .u8 0), AV.c (Value.int .u8 0), AV.c (Value.int .u8 0), AV.c (Value.int .u8 0), AV.c (Value.int .u8 0), AV.c (Value.int .u8 0), AV.c (Value.int .u8 0), AV.c (Value.int .u8 0), AV.c (Value.int .u8 0), AV.c (Value.int .u8 0), AV.c (Value.int .u8 0), AV.c (Value.int .u8 0), AV.c (Value.int .u8 0), AV.c (Value.int .u8 0), AV.c (Value.int .u8 0), AV.c (Value.int .u8 0), AV.c (Value.int .u8 0), AV.c (Value.int .u8 0), AV.c (Value.int .u8 0), AV.c (Value.int .u8 0), AV.c (Value.int .u8 0), AV.c (Value.int .u8 0), AV.c (Value.int .u8 0), AV.c (Value.int .u8 0), AV.c (Value.int .u8 0), AV.c (Value.int .u8 0), AV.c (Value.int .u8 0), AV.c (Value.int .u8 0), AV.c (Value.int .u8 0), AV.c (Value.int .u8 0), AV.c (Value.int .u8 0), AV.c (Value.int .u8 0), AV.c (Value.int .u8 0), AV.c (Value.int .u8 0), AV.c (Value.int .u8 0), AV.c (Value.int .u8 0), AV.c (Value.int .u8 0), AV.c (Value.int .u8 0), AV.c (Value.int .u8 0), AV.c (Value.int .u8 0), AV.c (Value.int .u8 0), AV.c (Value.int .u8 0), AV.c (Value.int .u8 0)] := by kernel_rfl
@[simp] theorem plc_134 : plc Tryd.prog 134 = some [(0, 1), (1, 1), (2, 1), (3, 1), (4, 1), (5, 1), (6, 1), (7, 1), (8, 1), (9, 1), (10, 1), (11, 1), (12, 1), (13, 1), (14, 1), (15, 1), (16, 1), (17, 1), (18, 1), (19, 1), (20, 1), (21, 1), (22, 1), (23, 1), (24, 1), (25, 1), (26, 1), (27, 1), (28, 1), (29, 1), (30, 1), (31, 1), (32, 1), (33, 1), (34, 1), (35, 1), (36, 1), (37, 1), (38, 1), (39, 1), (40, 1), (41, 1), (42, 1), (43, 1), (44, 1), (45, 1), (46, 1), (47, 1), (48, 1), (49, 1), (50, 1), (51, 1), (52, 1), (53, 1), (54, 1), (55, 1), (56, 1), (57, 1), (58, 1), (59, 1), (60, 1), (61, 1), (62, 1), (63, 1)] := by kernel_rfl
@[simp] theorem tk_135 : tk Tryd.prog 135 = .strct := by kernel_rfl
@[simp] theorem tsz_135 : tsz Tryd.prog 135 = 4 := by kernel_rfl
@[simp] theorem tby_135 : tby Tryd.prog 135 = 40 := by kernel_rfl
@[simp] theorem az_135 : azero Tryd.prog 135 = AV.agg [AV.c (Value.pointer none), AV.c (Value.pointer none), AV.c (Value.pointer none), AV.c (Value.string (⟨#[]⟩ : ByteArray))] := by kernel_rfl
@[simp] theorem plc_135 : plc Tryd.prog 135 = some [(0, 1), (1, 1), (2, 1), (3, 1)] := by kernel_rfl
@[simp] theorem tk_136 : tk Tryd.prog 136 = .strct := by kernel_rfl
@[simp] theorem tsz_136 : tsz Tryd.prog 136 = 4 := by kernel_rfl
@[simp] theorem tby_136 : tby Tryd.prog 136 = 40 := by kernel_rfl
@[simp] theorem az_136 : azero Tryd.prog 136 = AV.agg [AV.c (Value.pointer none), AV.c (Value.pointer none), AV.c (Value.pointer none), AV.c (Value.string (⟨#[]⟩ : ByteArray))] := by kernel_rfl
@[simp] theorem plc_136 : plc Tryd.prog 136 = some [(0, 1), (1, 1), (2, 1), (3, 1)] := by kernel_rfl
@[simp] theorem tk_137 : tk Tryd.prog 137 = .arr 0 16 := by kernel_rfl
@[simp] theorem tsz_137 : tsz Tryd.prog 137 = 0 := by kernel_rfl
@[simp] theorem tby_137 : tby Tryd.prog 137 = 0 := by kernel_rfl
@[simp] theorem az_137 : azero Tryd.prog 137 = AV.agg [] := by kernel_rfl
@[simp] theorem plc_137 : plc Tryd.prog 137 = some [] := by kernel_rfl
@[simp] theorem tk_138 : tk Tryd.prog 138 = .strct := by kernel_rfl
@[simp] theorem tsz_138 : tsz Tryd.prog 138 = 0 := by kernel_rfl
@[simp] theorem tby_138 : tby Tryd.prog 138 = 0 := by kernel_rfl
@[simp] theorem az_138 : azero Tryd.prog 138 = AV.agg [] := by kernel_rfl
@[simp] theorem plc_138 : plc Tryd.prog 138 = some [(0, 0)] := by kernel_rfl
@[simp] theorem tk_139 : tk Tryd.prog 139 = .strct := by kernel_rfl
@[simp] theorem tsz_139 : tsz Tryd.prog 139 = 0 := by kernel_rfl
@[simp] theorem tby_139 : tby Tryd.prog 139 = 0 := by kernel_rfl
@[simp] theorem az_139 : azero Tryd.prog 139 = AV.agg [] := by kernel_rfl
@[simp] theorem plc_139 : plc Tryd.prog 139 = some [(0, 0)] := by kernel_rfl
@[simp] theorem tk_140 : tk Tryd.prog 140 = .int .u8 := by kernel_rfl
@[simp] theorem tsz_140 : tsz Tryd.prog 140 = 1 := by kernel_rfl
@[simp] theorem tby_140 : tby Tryd.prog 140 = 1 := by kernel_rfl
@[simp] theorem az_140 : azero Tryd.prog 140 = AV.c (Value.int .u8 0) := by kernel_rfl
@[simp] theorem tk_141 : tk Tryd.prog 141 = .int .u8 := by kernel_rfl
@[simp] theorem tsz_141 : tsz Tryd.prog 141 = 1 := by kernel_rfl
@[simp] theorem tby_141 : tby Tryd.prog 141 = 1 := by kernel_rfl
@[simp] theorem az_141 : azero Tryd.prog 141 = AV.c (Value.int .u8 0) := by kernel_rfl
@[simp] theorem tk_142 : tk Tryd.prog 142 = .fn := by kernel_rfl
@[simp] theorem tsz_142 : tsz Tryd.prog 142 = 1 := by kernel_rfl
@[simp] theorem tby_142 : tby Tryd.prog 142 = 8 := by kernel_rfl
@[simp] theorem az_142 : azero Tryd.prog 142 = AV.c Value.nilFunc := by kernel_rfl
@[simp] theorem tk_143 : tk Tryd.prog 143 = .int .i32 := by kernel_rfl
@[simp] theorem tsz_143 : tsz Tryd.prog 143 = 1 := by kernel_rfl
@[simp] theorem tby_143 : tby Tryd.prog 143 = 4 := by kernel_rfl
@[simp] theorem az_143 : azero Tryd.prog 143 = AV.c (Value.int .i32 0) := by kernel_rfl
@[simp] theorem tk_144 : tk Tryd.prog 144 = .int .i32 := by kernel_rfl
@[simp] theorem tsz_144 : tsz Tryd.prog 144 = 1 := by kernel_rfl
@[simp] theorem tby_144 : tby Tryd.prog 144 = 4 := by kernel_rfl
@[simp] theorem az_144 : azero Tryd.prog 144 = AV.c (Value.int .i32 0) := by kernel_rfl
@[simp] theorem tk_145 : tk Tryd.prog 145 = .strct := by kernel_rfl
@[simp] theorem tsz_145 : tsz Tryd.prog 145 = 11 := by kernel_rfl
@[simp] theorem tby_145 : tby Tryd.prog 145 = 48 := by kernel_rfl
@[simp] theorem az_145 : azero Tryd.prog 145 = AV.agg [AV.c (Value.int .u64 0), AV.c (Value.int .u64 0), AV.c (Value.int .u32 0), AV.c (Value.int .u8 0), AV.c (Value.int .u8 0), AV.c (Value.int .u8 0), AV.c (Value.int .u8 0), AV.c Value.nilFunc, AV.c (Value.pointer none), AV.c (Value.int .i32 0), AV.c (Value.int .i32 0)] := by kernel_rfl
@[simp] theorem plc_145 : plc Tryd.prog 145 = some [(0, 1), (1, 1), (2, 1), (3, 1), (4, 1), (5, 1), (6, 1), (7, 1), (8, 1), (9, 1), (10, 1)] := by kernel_rfl
@[simp] theorem tk_146 : tk Tryd.prog 146 = .strct := by kernel_rfl
@[simp] theorem tsz_146 : tsz Tryd.prog 146 = 11 := by kernel_rfl
@[simp] theorem tby_146 : tby Tryd.prog 146 = 48 := by kernel_rfl
@[simp] theorem az_146 : azero Tryd.prog 146 = AV.agg [AV.c (Value.int .u64 0), AV.c (Value.int .u64 0), AV.c (Value.int .u32 0), AV.c (Value.int .u8 0), AV.c (Value.int .u8 0), AV.c (Value.int .u8 0), AV.c (Value.int .u8 0), AV.c Value.nilFunc, AV.c (Value.pointer none), AV.c (Value.int .i32 0), AV.c (Value.int .i32 0)] := by kernel_rfl
@[simp] theorem plc_146 : plc Tryd.prog 146 = some [(0, 1), (1, 1), (2, 1), (3, 1), (4, 1), (5, 1), (6, 1), (7, 1), (8, 1), (9, 1), (10, 1)] := by kernel_rfl
@[simp] theorem fld_7_0 : fld Tryd.prog 7 0 = some (0, 2) := by kernel_rfl
@[simp] theorem fld_7_1 : fld Tryd.prog 7 1 = some (1, 3) := by kernel_rfl
@[simp] theorem fld_7_2 : fld Tryd.prog 7 2 = some (2, 4) := by kernel_rfl
@[simp] theorem fld_7_3 : fld Tryd.prog 7 3 = some (3, 6) := by kernel_rfl
@[simp] theorem fld_8_0 : fld Tryd.prog 8 0 = some (0, 2) := by kernel_rfl
@[simp] theorem fld_8_1 : fld Tryd.prog 8 1 = some (1, 3) := by kernel_rfl
@[simp] theorem fld_8_2 : fld Tryd.prog 8 2 = some (2, 4) := by kernel_rfl
@[simp] theorem fld_8_3 : fld Tryd.prog 8 3 = some (3, 6) := by kernel_rfl
@[simp] theorem fld_13_0 : fld Tryd.prog 13 0 = some (0, 9) := by kernel_rfl
@[simp] theorem fld_13_1 : fld Tryd.prog 13 1 = some (1, 12) := by kernel_rfl
@[simp] theorem fld_14_0 : fld Tryd.prog 14 0 = some (0, 9) := by kernel_rfl
@[simp] theorem fld_14_1 : fld Tryd.prog 14 1 = some (1, 12) := by kernel_rfl
@[simp] theorem fld_18_0 : fld Tryd.prog 18 0 = some (0, 17) := by kernel_rfl
@[simp] theorem fld_19_0 : fld Tryd.prog 19 0 = some (0, 17) := by kernel_rfl
@[simp] theorem fld_36_0 : fld Tryd.prog 36 0 = some (0, 9) := by kernel_rfl
@[simp] theorem fld_36_1 : fld Tryd.prog 36 1 = some (1, 3) := by kernel_rfl
@[simp] theorem fld_36_2 : fld Tryd.prog 36 2 = some (2, 3) := by kernel_rfl
@[simp] theorem fld_36_3 : fld Tryd.prog 36 3 = some (3, 3) := by kernel_rfl
@[simp] theorem fld_36_4 : fld Tryd.prog 36 4 = some (4, 3) := by kernel_rfl
@[simp] theorem fld_36_5 : fld Tryd.prog 36 5 = some (5, 22) := by kernel_rfl
@[simp] theorem fld_37_0 : fld Tryd.prog 37 0 = some (0, 9) := by kernel_rfl
@[simp] theorem fld_37_1 : fld Tryd.prog 37 1 = some (1, 3) := by kernel_rfl
@[simp] theorem fld_37_2 : fld Tryd.prog 37 2 = some (2, 3) := by kernel_rfl
@[simp] theorem fld_37_3 : fld Tryd.prog 37 3 = some (3, 3) := by kernel_rfl
@[simp] theorem fld_37_4 : fld Tryd.prog 37 4 = some (4, 3) := by kernel_rfl
@[simp] theorem fld_37_5 : fld Tryd.prog 37 5 = some (5, 22) := by kernel_rfl
@[simp] theorem fld_44_0 : fld Tryd.prog 44 0 = some (0, 22) := by kernel_rfl
@[simp] theorem fld_44_1 : fld Tryd.prog 44 1 = some (1, 27) := by kernel_rfl
@[simp] theorem fld_45_0 : fld Tryd.prog 45 0 = some (0, 22) := by kernel_rfl
@[simp] theorem fld_45_1 : fld Tryd.prog 45 1 = some (1, 27) := by kernel_rfl
@[simp] theorem fld_55_0 : fld Tryd.prog 55 0 = some (0, 9) := by kernel_rfl
@[simp] theorem fld_55_1 : fld Tryd.prog 55 1 = some (1, 3) := by kernel_rfl
@[simp] theorem fld_55_2 : fld Tryd.prog 55 2 = some (2, 3) := by kernel_rfl
@[simp] theorem fld_55_3 : fld Tryd.prog 55 3 = some (3, 3) := by kernel_rfl
@[simp] theorem fld_55_4 : fld Tryd.prog 55 4 = some (4, 3) := by kernel_rfl
@[simp] theorem fld_55_5 : fld Tryd.prog 55 5 = some (5, 3) := by kernel_rfl
@[simp] theorem fld_56_0 : fld Tryd.prog 56 0 = some (0, 9) := by kernel_rfl
@[simp] theorem fld_56_1 : fld Tryd.prog 56 1 = some (1, 3) := by kernel_rfl
@[simp] theorem fld_56_2 : fld Tryd.prog 56 2 = some (2, 3) := by kernel_rfl
@[simp] theorem fld_56_3 : fld Tryd.prog 56 3 = some (3, 3) := by kernel_rfl
@[simp] theorem fld_56_4 : fld Tryd.prog 56 4 = some (4, 3) := by kernel_rfl
@[simp] theorem fld_56_5 : fld Tryd.prog 56 5 = some (5, 3) := by kernel_rfl
@[simp] theorem fld_60_0 : fld Tryd.prog 60 0 = some (0, 9) := by kernel_rfl
@[simp] theorem fld_60_1 : fld Tryd.prog 60 1 = some (1, 3) := by kernel_rfl
@[simp] theorem fld_60_2 : fld Tryd.prog 60 2 = some (2, 3) := by kernel_rfl
@[simp] theorem fld_60_3 : fld Tryd.prog 60 3 = some (3, 3) := by kernel_rfl
@[simp] theorem fld_60_4 : fld Tryd.prog 60 4 = some (4, 3) := by kernel_rfl
@[simp] theorem fld_60_5 : fld Tryd.prog 60 5 = some (5, 3) := by kernel_rfl
@[simp] theorem fld_76_0 : fld Tryd.prog 76 0 = some (0, 3) := by kernel_rfl
@[simp] theorem fld_76_1 : fld Tryd.prog 76 1 = some (1, 3) := by kernel_rfl
@[simp] theorem fld_76_2 : fld Tryd.prog 76 2 = some (2, 4) := by kernel_rfl
@[simp] theorem fld_76_3 : fld Tryd.prog 76 3 = some (3, 75) := by kernel_rfl
@[simp] theorem fld_77_0 : fld Tryd.prog 77 0 = some (0, 3) := by kernel_rfl
@[simp] theorem fld_77_1 : fld Tryd.prog 77 1 = some (1, 3) := by kernel_rfl
@[simp] theorem fld_77_2 : fld Tryd.prog 77 2 = some (2, 4) := by kernel_rfl
@[simp] theorem fld_77_3 : fld Tryd.prog 77 3 = some (3, 75) := by kernel_rfl
@[simp] theorem fld_90_0 : fld Tryd.prog 90 0 = some (0, 89) := by kernel_rfl
@[simp] theorem fld_90_1 : fld Tryd.prog 90 1 = some (1, 22) := by kernel_rfl
@[simp] theorem fld_91_0 : fld Tryd.prog 91 0 = some (0, 89) := by kernel_rfl
@[simp] theorem fld_91_1 : fld Tryd.prog 91 1 = some (1, 22) := by kernel_rfl
@[simp] theorem fld_135_0 : fld Tryd.prog 135 0 = some (0, 17) := by kernel_rfl
@[simp] theorem fld_135_1 : fld Tryd.prog 135 1 = some (1, 17) := by kernel_rfl
@[simp] theorem fld_135_2 : fld Tryd.prog 135 2 = some (2, 17) := by kernel_rfl
@[simp] theorem fld_135_3 : fld Tryd.prog 135 3 = some (3, 9) := by kernel_rfl
@[simp] theorem fld_136_0 : fld Tryd.prog 136 0 = some (0, 17) := by kernel_rfl
@[simp] theorem fld_136_1 : fld Tryd.prog 136 1 = some (1, 17) := by kernel_rfl
@[simp] theorem fld_136_2 : fld Tryd.prog 136 2 = some (2, 17) := by kernel_rfl
@[simp] theorem fld_136_3 : fld Tryd.prog 136 3 = some (3, 9) := by kernel_rfl
@[simp] theorem fld_138_0 : fld Tryd.prog 138 0 = none := by kernel_rfl
@[simp] theorem fld_139_0 : fld Tryd.prog 139 0 = none := by kernel_rfl
@[simp] theorem fld_145_0 : fld Tryd.prog 145 0 = some (0, 12) := by kernel_rfl
@[simp] theorem fld_145_1 : fld Tryd.prog 145 1 = some (1, 12) := by kernel_rfl
@[simp] theorem fld_145_2 : fld Tryd.prog 145 2 = some (2, 109) := by kernel_rfl
@[simp] theorem fld_145_3 : fld Tryd.prog 145 3 = some (3, 140) := by kernel_rfl
@[simp] theorem fld_145_4 : fld Tryd.prog 145 4 = some (4, 5) := by kernel_rfl
@[simp] theorem fld_145_5 : fld Tryd.prog 145 5 = some (5, 5) := by kernel_rfl
@[simp] theorem fld_145_6 : fld Tryd.prog 145 6 = some (6, 141) := by kernel_rfl
@[simp] theorem fld_145_7 : fld Tryd.prog 145 7 = some (7, 142) := by kernel_rfl
@[simp] theorem fld_145_8 : fld Tryd.prog 145 8 = some (8, 115) := by kernel_rfl
@[simp] theorem fld_145_9 : fld Tryd.prog 145 9 = some (9, 143) := by kernel_rfl
@[simp] theorem fld_145_10 : fld Tryd.prog 145 10 = some (10, 144) := by kernel_rfl
@[simp] theorem fld_146_0 : fld Tryd.prog 146 0 = some (0, 12) := by kernel_rfl
@[simp] theorem fld_146_1 : fld Tryd.prog 146 1 = some (1, 12) := by kernel_rfl
@[simp] theorem fld_146_2 : fld Tryd.prog 146 2 = some (2, 109) := by kernel_rfl
@[simp] theorem fld_146_3 : fld Tryd.prog 146 3 = some (3, 140) := by kernel_rfl
@[simp] theorem fld_146_4 : fld Tryd.prog 146 4 = some (4, 5) := by kernel_rfl
@[simp] theorem fld_146_5 : fld Tryd.prog 146 5 = some (5, 5) := by kernel_rfl
@[simp] theorem fld_146_6 : fld Tryd.prog 146 6 = some (6, 141) := by kernel_rfl
@[simp] theorem fld_146_7 : fld Tryd.prog 146 7 = some (7, 142) := by kernel_rfl
@[simp] theorem fld_146_8 : fld Tryd.prog 146 8 = some (8, 115) := by kernel_rfl
@[simp] theorem fld_146_9 : fld Tryd.prog 146 9 = some (9, 143) := by kernel_rfl
@[simp] theorem fld_146_10 : fld Tryd.prog 146 10 = some (10, 144) := by kernel_rfl
@[simp] theorem callable_3 : callable Tryd.prog 3 = true := by kernel_rfl
@[simp] theorem callable_4 : callable Tryd.prog 4 = true := by kernel_rfl
@[simp] theorem callable_5 : callable Tryd.prog 5 = true := by kernel_rfl
@[simp] theorem callable_6 : callable Tryd.prog 6 = true := by kernel_rfl
@[simp] theorem callable_7 : callable Tryd.prog 7 = true := by kernel_rfl
@[simp] theorem callable_8 : callable Tryd.prog 8 = true := by kernel_rfl
@[simp] theorem callable_9 : callable Tryd.prog 9 = true := by kernel_rfl
@[simp] theorem callable_10 : callable Tryd.prog 10 = true := by kernel_rfl
@[simp] theorem callable_11 : callable Tryd.prog 11 = true := by kernel_rfl
@[simp] theorem callable_12 : callable Tryd.prog 12 = true := by kernel_rfl
@[simp] theorem callable_13 : callable Tryd.prog 13 = true := by kernel_rfl
@[simp] theorem callable_14 : callable Tryd.prog 14 = true := by kernel_rfl
@[simp] theorem callable_15 : callable Tryd.prog 15 = true := by kernel_rfl
@[simp] theorem callable_16 : callable Tryd.prog 16 = true := by kernel_rfl
@[simp] theorem callable_17 : callable Tryd.prog 17 = true := by kernel_rfl
@[simp] theorem callable_18 : callable Tryd.prog 18 = true := by kernel_rfl
@[simp] theorem callable_19 : callable Tryd.prog 19 = true := by kernel_rfl
@[simp] theorem callable_20 : callable Tryd.prog 20 = true := by kernel_rfl
@[simp] theorem callable_21 : callable Tryd.prog 21 = true := by kernel_rfl
@[simp] theorem callable_22 : callable Tryd.prog 22 = true := by kernel_rfl
@[simp] theorem callable_23 : callable Tryd.prog 23 = true := by kernel_rfl
@[simp] theorem callable_24 : callable Tryd.prog 24 = true := by kernel_rfl
@[simp] theorem callable_25 : callable Tryd.prog 25 = true := by kernel_rfl
@[simp] theorem callable_26 : callable Tryd.prog 26 = true := by kernel_rfl
@[simp] theorem callable_27 : callable Tryd.prog 27 = true := by kernel_rfl
@[simp] theorem callable_28 : callable Tryd.prog 28 = true := by kernel_rfl
@[simp] theorem callable_29 : callable Tryd.prog 29 = true := by kernel_rfl
@[simp] theorem callable_30 : callable Tryd.prog 30 = true := by kernel_rfl
@[simp] theorem callable_31 : callable Tryd.prog 31 = true := by kernel_rfl
@[simp] theorem callable_32 : callable Tryd.prog 32 = true := by kernel_rfl
@[simp] theorem callable_33 : callable Tryd.prog 33 = true := by kernel_rfl
@[simp] theorem callable_34 : callable Tryd.prog 34 = true := by kernel_rfl
@[simp] theorem callable_35 : callable Tryd.prog 35 = true := by kernel_rfl
@[simp] theorem callable_36 : callable Tryd.prog 36 = true := by kernel_rfl
@[simp] theorem callable_37 : callable Tryd.prog 37 = true := by kernel_rfl
@[simp] theorem callable_38 : callable Tryd.prog 38 = true := by kernel_rfl
@[simp] theorem callable_39 : callable Tryd.prog 39 = true := by kernel_rfl
@[simp] theorem callable_40 : callable Tryd.prog 40 = true := by kernel_rfl
@[simp] theorem callable_41 : callable Tryd.prog 41 = true := by kernel_rfl
@[simp] theorem callable_42 : callable Tryd.prog 42 = true := by kernel_rfl
@[simp] theorem callable_43 : callable Tryd.prog 43 = true := by kernel_rfl
@[simp] theorem callable_44 : callable Tryd.prog 44 = true := by kernel_rfl
@[simp] theorem callable_45 : callable Tryd.prog 45 = true := by kernel_rfl
@[simp] theorem callable_46 : callable Tryd.prog 46 = true := by kernel_rfl
@[simp] theorem callable_47 : callable Tryd.prog 47 = true := by kernel_rfl
@[simp] theorem callable_48 : callable Tryd.prog 48 = true := by kernel_rfl
@[simp] theorem callable_49 : callable Tryd.prog 49 = true := by kernel_rfl
@[simp] theorem callable_50 : callable Tryd.prog 50 = true := by kernel_rfl
@[simp] theorem callable_51 : callable Tryd.prog 51 = true := by kernel_rfl
@[simp] theorem callable_52 : callable Tryd.prog 52 = true := by kernel_rfl
@[simp] theorem callable_53 : callable Tryd.prog 53 = true := by kernel_rfl
@[simp] theorem callable_54 : callable Tryd.prog 54 = true := by kernel_rfl
@[simp] theorem callable_55 : callable Tryd.prog 55 = true := by kernel_rfl
@[simp] theorem callable_56 : callable Tryd.prog 56 = true := by kernel_rfl
@[simp] theorem callable_57 : callable Tryd.prog 57 = true := by kernel_rfl
@[simp] theorem callable_58 : callable Tryd.prog 58 = true := by kernel_rfl
@[simp] theorem callable_59 : callable Tryd.prog 59 = true := by kernel_rfl
@[simp] theorem callable_60 : callable Tryd.prog 60 = true := by kernel_rfl
@[simp] theorem callable_61 : callable Tryd.prog 61 = true := by kernel_rfl
@[simp] theorem callable_62 : callable Tryd.prog 62 = true := by kernel_rfl
@[simp] theorem callable_63 : callable Tryd.prog 63 = true := by kernel_rfl
@[simp] theorem callable_64 : callable Tryd.prog 64 = true := by kernel_rfl
@[simp] theorem callable_65 : callable Tryd.prog 65 = true := by kernel_rfl
@[simp] theorem callable_66 : callable Tryd.prog 66 = true := by kernel_rfl
@[simp] theorem callable_67 : callable Tryd.prog 67 = true := by kernel_rfl
@[simp] theorem callable_68 : callable Tryd.prog 68 = true := by kernel_rfl
@[simp] theorem callable_69 : callable Tryd.prog 69 = true := by kernel_rfl
@[simp] theorem callable_70 : callable Tryd.prog 70 = true := by kernel_rfl
@[simp] theorem callable_71 : callable Tryd.prog 71 = true := by kernel_rfl
@[simp] theorem callable_73 : callable Tryd.prog 73 = true := by kernel_rfl
@[simp] theorem callable_76 : callable Tryd.prog 76 = true := by kernel_rfl
@[simp] theorem callable_77 : callable Tryd.prog 77 = true := by kernel_rfl
@[simp] theorem callable_78 : callable Tryd.prog 78 = true := by kernel_rfl
@[simp] theorem callable_79 : callable Tryd.prog 79 = true := by kernel_rfl
@[simp] theorem callable_80 : callable Tryd.prog 80 = true := by kernel_rfl
@[simp] theorem callable_82 : callable Tryd.prog 82 = true := by kernel_rfl
@[simp] theorem callable_83 : callable Tryd.prog 83 = true := by kernel_rfl
@[simp] theorem callable_84 : callable Tryd.prog 84 = true := by kernel_rfl
@[simp] theorem callable_85 : callable Tryd.prog 85 = true := by kernel_rfl
@[simp] theorem callable_86 : callable Tryd.prog 86 = true := by kernel_rfl
@[simp] theorem callable_87 : callable Tryd.prog 87 = true := by kernel_rfl
@[simp] theorem callable_88 : callable Tryd.prog 88 = true := by kernel_rfl
end Go.Proofs.YtfonamgmfljhlaaDoor
