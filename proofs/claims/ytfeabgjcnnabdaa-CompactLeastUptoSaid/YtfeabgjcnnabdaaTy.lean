/- Facts on the types of the program, read off its tables. -/
import Derived.Test.YtfeabgjcnnabdaaPm27
import Derived.Test.YtfeabgjcnnabdaaChecked
import Derived.KernelRfl
namespace Go.Proofs.Ytfeabgjcnnabdaa
open Go.PM
@[simp] theorem und_2 : Try.prog.underlying 2 = some (Go.TypeDesc.int Go.IntKind.i64) := by kernel_rfl
@[simp] theorem tI_2 : tI Try.prog 2 = some { sz := 1, bytes := 8, agg := false, zero := [Go.Value.int Go.IntKind.i64 0] } := by kernel_rfl
@[simp] theorem tSl_2 : tSl Try.prog 2 = none := by kernel_rfl
@[simp] theorem tAr_2 : tAr Try.prog 2 = none := by kernel_rfl
@[simp] theorem tSt_2 : tSt Try.prog 2 = none := by kernel_rfl
@[simp] theorem und_3 : Try.prog.underlying 3 = some (Go.TypeDesc.int Go.IntKind.i64) := by kernel_rfl
@[simp] theorem tI_3 : tI Try.prog 3 = some { sz := 1, bytes := 8, agg := false, zero := [Go.Value.int Go.IntKind.i64 0] } := by kernel_rfl
@[simp] theorem tSl_3 : tSl Try.prog 3 = none := by kernel_rfl
@[simp] theorem tAr_3 : tAr Try.prog 3 = none := by kernel_rfl
@[simp] theorem tSt_3 : tSt Try.prog 3 = none := by kernel_rfl
@[simp] theorem und_4 : Try.prog.underlying 4 = some Go.TypeDesc.bool := by kernel_rfl
@[simp] theorem tI_4 : tI Try.prog 4 = some { sz := 1, bytes := 1, agg := false, zero := [Go.Value.bool false] } := by kernel_rfl
@[simp] theorem tSl_4 : tSl Try.prog 4 = none := by kernel_rfl
@[simp] theorem tAr_4 : tAr Try.prog 4 = none := by kernel_rfl
@[simp] theorem tSt_4 : tSt Try.prog 4 = none := by kernel_rfl
@[simp] theorem und_22 : Try.prog.underlying 22 = some (Go.TypeDesc.slice 45) := by kernel_rfl
@[simp] theorem tI_22 : tI Try.prog 22 = some { sz := 1, bytes := 24, agg := false, zero := [Go.Value.slice none 0 0] } := by kernel_rfl
@[simp] theorem tSl_22 : tSl Try.prog 22 = some (45, { sz := 3, bytes := 40, agg := true, zero := [Go.Value.int Go.IntKind.i64 0, Go.Value.int Go.IntKind.i64 0, Go.Value.slice none 0 0] }) := by kernel_rfl
@[simp] theorem tAr_22 : tAr Try.prog 22 = none := by kernel_rfl
@[simp] theorem tSt_22 : tSt Try.prog 22 = none := by kernel_rfl
@[simp] theorem und_23 : Try.prog.underlying 23 = some (Go.TypeDesc.slice 39) := by kernel_rfl
@[simp] theorem tI_23 : tI Try.prog 23 = some { sz := 1, bytes := 24, agg := false, zero := [Go.Value.slice none 0 0] } := by kernel_rfl
@[simp] theorem tSl_23 : tSl Try.prog 23 = some (39, { sz := 3, bytes := 24, agg := true, zero := [Go.Value.int Go.IntKind.i64 0, Go.Value.int Go.IntKind.i64 0, Go.Value.int Go.IntKind.i64 0] }) := by kernel_rfl
@[simp] theorem tAr_23 : tAr Try.prog 23 = none := by kernel_rfl
@[simp] theorem tSt_23 : tSt Try.prog 23 = none := by kernel_rfl
@[simp] theorem und_24 : Try.prog.underlying 24 = some (Go.TypeDesc.slice 37) := by kernel_rfl
@[simp] theorem tI_24 : tI Try.prog 24 = some { sz := 1, bytes := 24, agg := false, zero := [Go.Value.slice none 0 0] } := by kernel_rfl
@[simp] theorem tSl_24 : tSl Try.prog 24 = some (37, { sz := 3, bytes := 40, agg := true, zero := [Go.Value.int Go.IntKind.i64 0, Go.Value.int Go.IntKind.i64 0, Go.Value.slice none 0 0] }) := by kernel_rfl
@[simp] theorem tAr_24 : tAr Try.prog 24 = none := by kernel_rfl
@[simp] theorem tSt_24 : tSt Try.prog 24 = none := by kernel_rfl
@[simp] theorem tI_25 : tI Try.prog 25 = some { sz := 2, bytes := 48, agg := true, zero := [Go.Value.slice none 0 0, Go.Value.slice none 0 0] } := by kernel_rfl
@[simp] theorem tSl_25 : tSl Try.prog 25 = none := by kernel_rfl
@[simp] theorem tAr_25 : tAr Try.prog 25 = none := by kernel_rfl
@[simp] theorem tSt_25 : tSt Try.prog 25 = some [(0, { sz := 1, bytes := 24, agg := false, zero := [Go.Value.slice none 0 0] }), (1, { sz := 1, bytes := 24, agg := false, zero := [Go.Value.slice none 0 0] })] := by kernel_rfl
@[simp] theorem tI_26 : tI Try.prog 26 = some { sz := 2, bytes := 48, agg := true, zero := [Go.Value.slice none 0 0, Go.Value.slice none 0 0] } := by kernel_rfl
@[simp] theorem tSl_26 : tSl Try.prog 26 = none := by kernel_rfl
@[simp] theorem tAr_26 : tAr Try.prog 26 = none := by kernel_rfl
@[simp] theorem tSt_26 : tSt Try.prog 26 = some [(0, { sz := 1, bytes := 24, agg := false, zero := [Go.Value.slice none 0 0] }), (1, { sz := 1, bytes := 24, agg := false, zero := [Go.Value.slice none 0 0] })] := by kernel_rfl
@[simp] theorem und_27 : Try.prog.underlying 27 = some (Go.TypeDesc.slice 3) := by kernel_rfl
@[simp] theorem tI_27 : tI Try.prog 27 = some { sz := 1, bytes := 24, agg := false, zero := [Go.Value.slice none 0 0] } := by kernel_rfl
@[simp] theorem tSl_27 : tSl Try.prog 27 = some (3, { sz := 1, bytes := 8, agg := false, zero := [Go.Value.int Go.IntKind.i64 0] }) := by kernel_rfl
@[simp] theorem tAr_27 : tAr Try.prog 27 = none := by kernel_rfl
@[simp] theorem tSt_27 : tSt Try.prog 27 = none := by kernel_rfl
@[simp] theorem tI_28 : tI Try.prog 28 = some { sz := 1, bytes := 8, agg := false, zero := [Go.Value.nilFunc] } := by kernel_rfl
@[simp] theorem tSl_28 : tSl Try.prog 28 = none := by kernel_rfl
@[simp] theorem tAr_28 : tAr Try.prog 28 = none := by kernel_rfl
@[simp] theorem tSt_28 : tSt Try.prog 28 = none := by kernel_rfl
@[simp] theorem tI_29 : tI Try.prog 29 = some { sz := 1, bytes := 8, agg := false, zero := [Go.Value.nilFunc] } := by kernel_rfl
@[simp] theorem tSl_29 : tSl Try.prog 29 = none := by kernel_rfl
@[simp] theorem tAr_29 : tAr Try.prog 29 = none := by kernel_rfl
@[simp] theorem tSt_29 : tSt Try.prog 29 = none := by kernel_rfl
@[simp] theorem tI_30 : tI Try.prog 30 = some { sz := 1, bytes := 8, agg := false, zero := [Go.Value.nilFunc] } := by kernel_rfl
@[simp] theorem tSl_30 : tSl Try.prog 30 = none := by kernel_rfl
@[simp] theorem tAr_30 : tAr Try.prog 30 = none := by kernel_rfl
@[simp] theorem tSt_30 : tSt Try.prog 30 = none := by kernel_rfl
@[simp] theorem tI_31 : tI Try.prog 31 = some { sz := 1, bytes := 8, agg := false, zero := [Go.Value.nilFunc] } := by kernel_rfl
@[simp] theorem tSl_31 : tSl Try.prog 31 = none := by kernel_rfl
@[simp] theorem tAr_31 : tAr Try.prog 31 = none := by kernel_rfl
@[simp] theorem tSt_31 : tSt Try.prog 31 = none := by kernel_rfl
@[simp] theorem tI_32 : tI Try.prog 32 = some { sz := 1, bytes := 8, agg := false, zero := [Go.Value.nilFunc] } := by kernel_rfl
@[simp] theorem tSl_32 : tSl Try.prog 32 = none := by kernel_rfl
@[simp] theorem tAr_32 : tAr Try.prog 32 = none := by kernel_rfl
@[simp] theorem tSt_32 : tSt Try.prog 32 = none := by kernel_rfl
@[simp] theorem und_33 : Try.prog.underlying 33 = some (Go.TypeDesc.tuple { toList := [22, 4] }) := by kernel_rfl
@[simp] theorem tI_33 : tI Try.prog 33 = some { sz := 1, bytes := 0, agg := false, zero := [Go.Value.tuple { toList := [Go.Value.slice none 0 0, Go.Value.bool false] }] } := by kernel_rfl
@[simp] theorem tSl_33 : tSl Try.prog 33 = none := by kernel_rfl
@[simp] theorem tAr_33 : tAr Try.prog 33 = none := by kernel_rfl
@[simp] theorem tSt_33 : tSt Try.prog 33 = none := by kernel_rfl
@[simp] theorem tI_34 : tI Try.prog 34 = some { sz := 1, bytes := 8, agg := false, zero := [Go.Value.nilFunc] } := by kernel_rfl
@[simp] theorem tSl_34 : tSl Try.prog 34 = none := by kernel_rfl
@[simp] theorem tAr_34 : tAr Try.prog 34 = none := by kernel_rfl
@[simp] theorem tSt_34 : tSt Try.prog 34 = none := by kernel_rfl
@[simp] theorem und_35 : Try.prog.underlying 35 = some (Go.TypeDesc.slice 4) := by kernel_rfl
@[simp] theorem tI_35 : tI Try.prog 35 = some { sz := 1, bytes := 24, agg := false, zero := [Go.Value.slice none 0 0] } := by kernel_rfl
@[simp] theorem tSl_35 : tSl Try.prog 35 = some (4, { sz := 1, bytes := 1, agg := false, zero := [Go.Value.bool false] }) := by kernel_rfl
@[simp] theorem tAr_35 : tAr Try.prog 35 = none := by kernel_rfl
@[simp] theorem tSt_35 : tSt Try.prog 35 = none := by kernel_rfl
@[simp] theorem tI_36 : tI Try.prog 36 = some { sz := 3, bytes := 40, agg := true, zero := [Go.Value.int Go.IntKind.i64 0, Go.Value.int Go.IntKind.i64 0, Go.Value.slice none 0 0] } := by kernel_rfl
@[simp] theorem tSl_36 : tSl Try.prog 36 = none := by kernel_rfl
@[simp] theorem tAr_36 : tAr Try.prog 36 = none := by kernel_rfl
@[simp] theorem tSt_36 : tSt Try.prog 36 = some [(0, { sz := 1, bytes := 8, agg := false, zero := [Go.Value.int Go.IntKind.i64 0] }), (1, { sz := 1, bytes := 8, agg := false, zero := [Go.Value.int Go.IntKind.i64 0] }), (2, { sz := 1, bytes := 24, agg := false, zero := [Go.Value.slice none 0 0] })] := by kernel_rfl
@[simp] theorem tI_37 : tI Try.prog 37 = some { sz := 3, bytes := 40, agg := true, zero := [Go.Value.int Go.IntKind.i64 0, Go.Value.int Go.IntKind.i64 0, Go.Value.slice none 0 0] } := by kernel_rfl
@[simp] theorem tSl_37 : tSl Try.prog 37 = none := by kernel_rfl
@[simp] theorem tAr_37 : tAr Try.prog 37 = none := by kernel_rfl
@[simp] theorem tSt_37 : tSt Try.prog 37 = some [(0, { sz := 1, bytes := 8, agg := false, zero := [Go.Value.int Go.IntKind.i64 0] }), (1, { sz := 1, bytes := 8, agg := false, zero := [Go.Value.int Go.IntKind.i64 0] }), (2, { sz := 1, bytes := 24, agg := false, zero := [Go.Value.slice none 0 0] })] := by kernel_rfl
@[simp] theorem und_38 : Try.prog.underlying 38 = some (Go.TypeDesc.array 3 2) := by kernel_rfl
@[simp] theorem tI_38 : tI Try.prog 38 = some { sz := 3, bytes := 24, agg := true, zero := [Go.Value.int Go.IntKind.i64 0, Go.Value.int Go.IntKind.i64 0, Go.Value.int Go.IntKind.i64 0] } := by kernel_rfl
@[simp] theorem tSl_38 : tSl Try.prog 38 = none := by kernel_rfl
@[simp] theorem tAr_38 : tAr Try.prog 38 = some (3, { sz := 1, bytes := 8, agg := false, zero := [Go.Value.int Go.IntKind.i64 0] }) := by kernel_rfl
@[simp] theorem tSt_38 : tSt Try.prog 38 = none := by kernel_rfl
@[simp] theorem tEq_38 : tEq Try.prog 38 = some [Go.PM.LK.int Go.IntKind.i64, Go.PM.LK.int Go.IntKind.i64, Go.PM.LK.int Go.IntKind.i64] := by kernel_rfl
@[simp] theorem und_39 : Try.prog.underlying 39 = some (Go.TypeDesc.array 3 2) := by kernel_rfl
@[simp] theorem tI_39 : tI Try.prog 39 = some { sz := 3, bytes := 24, agg := true, zero := [Go.Value.int Go.IntKind.i64 0, Go.Value.int Go.IntKind.i64 0, Go.Value.int Go.IntKind.i64 0] } := by kernel_rfl
@[simp] theorem tSl_39 : tSl Try.prog 39 = none := by kernel_rfl
@[simp] theorem tAr_39 : tAr Try.prog 39 = some (3, { sz := 1, bytes := 8, agg := false, zero := [Go.Value.int Go.IntKind.i64 0] }) := by kernel_rfl
@[simp] theorem tSt_39 : tSt Try.prog 39 = none := by kernel_rfl
@[simp] theorem tEq_39 : tEq Try.prog 39 = some [Go.PM.LK.int Go.IntKind.i64, Go.PM.LK.int Go.IntKind.i64, Go.PM.LK.int Go.IntKind.i64] := by kernel_rfl
@[simp] theorem tI_40 : tI Try.prog 40 = some { sz := 1, bytes := 8, agg := false, zero := [Go.Value.nilFunc] } := by kernel_rfl
@[simp] theorem tSl_40 : tSl Try.prog 40 = none := by kernel_rfl
@[simp] theorem tAr_40 : tAr Try.prog 40 = none := by kernel_rfl
@[simp] theorem tSt_40 : tSt Try.prog 40 = none := by kernel_rfl
@[simp] theorem tI_41 : tI Try.prog 41 = some { sz := 1, bytes := 8, agg := false, zero := [Go.Value.nilFunc] } := by kernel_rfl
@[simp] theorem tSl_41 : tSl Try.prog 41 = none := by kernel_rfl
@[simp] theorem tAr_41 : tAr Try.prog 41 = none := by kernel_rfl
@[simp] theorem tSt_41 : tSt Try.prog 41 = none := by kernel_rfl
@[simp] theorem und_42 : Try.prog.underlying 42 = some (Go.TypeDesc.pointer 55) := by kernel_rfl
@[simp] theorem tI_42 : tI Try.prog 42 = some { sz := 1, bytes := 8, agg := false, zero := [Go.Value.pointer none] } := by kernel_rfl
@[simp] theorem tSl_42 : tSl Try.prog 42 = none := by kernel_rfl
@[simp] theorem tAr_42 : tAr Try.prog 42 = none := by kernel_rfl
@[simp] theorem tSt_42 : tSt Try.prog 42 = none := by kernel_rfl
@[simp] theorem tI_43 : tI Try.prog 43 = some { sz := 1, bytes := 8, agg := false, zero := [Go.Value.nilFunc] } := by kernel_rfl
@[simp] theorem tSl_43 : tSl Try.prog 43 = none := by kernel_rfl
@[simp] theorem tAr_43 : tAr Try.prog 43 = none := by kernel_rfl
@[simp] theorem tSt_43 : tSt Try.prog 43 = none := by kernel_rfl
@[simp] theorem tI_44 : tI Try.prog 44 = some { sz := 3, bytes := 40, agg := true, zero := [Go.Value.int Go.IntKind.i64 0, Go.Value.int Go.IntKind.i64 0, Go.Value.slice none 0 0] } := by kernel_rfl
@[simp] theorem tSl_44 : tSl Try.prog 44 = none := by kernel_rfl
@[simp] theorem tAr_44 : tAr Try.prog 44 = none := by kernel_rfl
@[simp] theorem tSt_44 : tSt Try.prog 44 = some [(0, { sz := 1, bytes := 8, agg := false, zero := [Go.Value.int Go.IntKind.i64 0] }), (1, { sz := 1, bytes := 8, agg := false, zero := [Go.Value.int Go.IntKind.i64 0] }), (2, { sz := 1, bytes := 24, agg := false, zero := [Go.Value.slice none 0 0] })] := by kernel_rfl
@[simp] theorem tI_45 : tI Try.prog 45 = some { sz := 3, bytes := 40, agg := true, zero := [Go.Value.int Go.IntKind.i64 0, Go.Value.int Go.IntKind.i64 0, Go.Value.slice none 0 0] } := by kernel_rfl
@[simp] theorem tSl_45 : tSl Try.prog 45 = none := by kernel_rfl
@[simp] theorem tAr_45 : tAr Try.prog 45 = none := by kernel_rfl
@[simp] theorem tSt_45 : tSt Try.prog 45 = some [(0, { sz := 1, bytes := 8, agg := false, zero := [Go.Value.int Go.IntKind.i64 0] }), (1, { sz := 1, bytes := 8, agg := false, zero := [Go.Value.int Go.IntKind.i64 0] }), (2, { sz := 1, bytes := 24, agg := false, zero := [Go.Value.slice none 0 0] })] := by kernel_rfl
@[simp] theorem tI_46 : tI Try.prog 46 = some { sz := 1, bytes := 8, agg := false, zero := [Go.Value.nilFunc] } := by kernel_rfl
@[simp] theorem tSl_46 : tSl Try.prog 46 = none := by kernel_rfl
@[simp] theorem tAr_46 : tAr Try.prog 46 = none := by kernel_rfl
@[simp] theorem tSt_46 : tSt Try.prog 46 = none := by kernel_rfl
@[simp] theorem tI_47 : tI Try.prog 47 = some { sz := 1, bytes := 8, agg := false, zero := [Go.Value.nilFunc] } := by kernel_rfl
@[simp] theorem tSl_47 : tSl Try.prog 47 = none := by kernel_rfl
@[simp] theorem tAr_47 : tAr Try.prog 47 = none := by kernel_rfl
@[simp] theorem tSt_47 : tSt Try.prog 47 = none := by kernel_rfl
@[simp] theorem tI_48 : tI Try.prog 48 = some { sz := 1, bytes := 8, agg := false, zero := [Go.Value.nilFunc] } := by kernel_rfl
@[simp] theorem tSl_48 : tSl Try.prog 48 = none := by kernel_rfl
@[simp] theorem tAr_48 : tAr Try.prog 48 = none := by kernel_rfl
@[simp] theorem tSt_48 : tSt Try.prog 48 = none := by kernel_rfl
@[simp] theorem tI_49 : tI Try.prog 49 = some { sz := 1, bytes := 8, agg := false, zero := [Go.Value.nilFunc] } := by kernel_rfl
@[simp] theorem tSl_49 : tSl Try.prog 49 = none := by kernel_rfl
@[simp] theorem tAr_49 : tAr Try.prog 49 = none := by kernel_rfl
@[simp] theorem tSt_49 : tSt Try.prog 49 = none := by kernel_rfl
@[simp] theorem tI_50 : tI Try.prog 50 = some { sz := 1, bytes := 8, agg := false, zero := [Go.Value.nilFunc] } := by kernel_rfl
@[simp] theorem tSl_50 : tSl Try.prog 50 = none := by kernel_rfl
@[simp] theorem tAr_50 : tAr Try.prog 50 = none := by kernel_rfl
@[simp] theorem tSt_50 : tSt Try.prog 50 = none := by kernel_rfl
@[simp] theorem und_51 : Try.prog.underlying 51 = some (Go.TypeDesc.map 39 3) := by kernel_rfl
@[simp] theorem tI_51 : tI Try.prog 51 = some { sz := 1, bytes := 8, agg := false, zero := [Go.Value.map none] } := by kernel_rfl
@[simp] theorem tSl_51 : tSl Try.prog 51 = none := by kernel_rfl
@[simp] theorem tAr_51 : tAr Try.prog 51 = none := by kernel_rfl
@[simp] theorem tSt_51 : tSt Try.prog 51 = none := by kernel_rfl
@[simp] theorem tMp_51 : tMp Try.prog 51 = some ([Go.PM.LK.int Go.IntKind.i64, Go.PM.LK.int Go.IntKind.i64, Go.PM.LK.int Go.IntKind.i64], Go.Value.int Go.IntKind.i64 0) := by kernel_rfl
@[simp] theorem und_52 : Try.prog.underlying 52 = some (Go.TypeDesc.tuple { toList := [3, 4] }) := by kernel_rfl
@[simp] theorem tI_52 : tI Try.prog 52 = some { sz := 1, bytes := 0, agg := false, zero := [Go.Value.tuple { toList := [Go.Value.int Go.IntKind.i64 0, Go.Value.bool false] }] } := by kernel_rfl
@[simp] theorem tSl_52 : tSl Try.prog 52 = none := by kernel_rfl
@[simp] theorem tAr_52 : tAr Try.prog 52 = none := by kernel_rfl
@[simp] theorem tSt_52 : tSt Try.prog 52 = none := by kernel_rfl
@[simp] theorem tI_53 : tI Try.prog 53 = some { sz := 1, bytes := 8, agg := false, zero := [Go.Value.nilFunc] } := by kernel_rfl
@[simp] theorem tSl_53 : tSl Try.prog 53 = none := by kernel_rfl
@[simp] theorem tAr_53 : tAr Try.prog 53 = none := by kernel_rfl
@[simp] theorem tSt_53 : tSt Try.prog 53 = none := by kernel_rfl
@[simp] theorem tI_54 : tI Try.prog 54 = some { sz := 2, bytes := 32, agg := true, zero := [Go.Value.slice none 0 0, Go.Value.int Go.IntKind.i64 0] } := by kernel_rfl
@[simp] theorem tSl_54 : tSl Try.prog 54 = none := by kernel_rfl
@[simp] theorem tAr_54 : tAr Try.prog 54 = none := by kernel_rfl
@[simp] theorem tSt_54 : tSt Try.prog 54 = some [(0, { sz := 1, bytes := 24, agg := false, zero := [Go.Value.slice none 0 0] }), (1, { sz := 1, bytes := 8, agg := false, zero := [Go.Value.int Go.IntKind.i64 0] })] := by kernel_rfl
@[simp] theorem tI_55 : tI Try.prog 55 = some { sz := 2, bytes := 32, agg := true, zero := [Go.Value.slice none 0 0, Go.Value.int Go.IntKind.i64 0] } := by kernel_rfl
@[simp] theorem tSl_55 : tSl Try.prog 55 = none := by kernel_rfl
@[simp] theorem tAr_55 : tAr Try.prog 55 = none := by kernel_rfl
@[simp] theorem tSt_55 : tSt Try.prog 55 = some [(0, { sz := 1, bytes := 24, agg := false, zero := [Go.Value.slice none 0 0] }), (1, { sz := 1, bytes := 8, agg := false, zero := [Go.Value.int Go.IntKind.i64 0] })] := by kernel_rfl
@[simp] theorem tI_56 : tI Try.prog 56 = some { sz := 1, bytes := 8, agg := false, zero := [Go.Value.nilFunc] } := by kernel_rfl
@[simp] theorem tSl_56 : tSl Try.prog 56 = none := by kernel_rfl
@[simp] theorem tAr_56 : tAr Try.prog 56 = none := by kernel_rfl
@[simp] theorem tSt_56 : tSt Try.prog 56 = none := by kernel_rfl
@[simp] theorem tI_57 : tI Try.prog 57 = some { sz := 1, bytes := 8, agg := false, zero := [Go.Value.nilFunc] } := by kernel_rfl
@[simp] theorem tSl_57 : tSl Try.prog 57 = none := by kernel_rfl
@[simp] theorem tAr_57 : tAr Try.prog 57 = none := by kernel_rfl
@[simp] theorem tSt_57 : tSt Try.prog 57 = none := by kernel_rfl
theorem mixed : Try.prog.follows .mixedOrders = true := by kernel_rfl
end Go.Proofs.Ytfeabgjcnnabdaa
