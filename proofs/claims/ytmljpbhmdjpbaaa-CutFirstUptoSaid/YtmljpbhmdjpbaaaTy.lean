/- Facts on the types of the program, read off its tables. -/
import Derived.Test.YtmljpbhmdjpbaaaPm27
import Derived.Test.YtmljpbhmdjpbaaaChecked
import Derived.KernelRfl
namespace Go.Proofs.Ytmljpbhmdjpbaaa
set_option linter.unusedVariables false
set_option linter.unusedSimpArgs false
open Go.PM
@[simp] theorem und_2 : Try.prog.underlying 2 = some (Go.TypeDesc.int Go.IntKind.i64) := by kernel_rfl
@[simp] theorem tI_2 : tI Try.prog 2 = some { sz := 1, bytes := 8, agg := false, zero := [Go.Value.int Go.IntKind.i64 0] } := by kernel_rfl
@[simp] theorem tSl_2 : tSl Try.prog 2 = none := by kernel_rfl
@[simp] theorem tAr_2 : tAr Try.prog 2 = none := by kernel_rfl
@[simp] theorem tSt_2 : tSt Try.prog 2 = none := by kernel_rfl
@[simp] theorem und_3 : Try.prog.underlying 3 = some (Go.TypeDesc.int Go.IntKind.i64) := by kernel_rfl
@[simp] theorem tI_3 : tI Try.prog 3 = some { sz := 1, bytes := 8, agg := false, zero := [Go.Value.int Go.IntKind.i64 0] } := by kernel_rfl
@[simp] theorem tSl_3 : tSl Try.prog 3 = none := by kernel_rfl
@[simp] theorem tAr_3 : tAr Try.prog 3 = none := by kernel_rfl
@[simp] theorem tSt_3 : tSt Try.prog 3 = none := by kernel_rfl
@[simp] theorem und_4 : Try.prog.underlying 4 = some Go.TypeDesc.bool := by kernel_rfl
@[simp] theorem tI_4 : tI Try.prog 4 = some { sz := 1, bytes := 1, agg := false, zero := [Go.Value.bool false] } := by kernel_rfl
@[simp] theorem tSl_4 : tSl Try.prog 4 = none := by kernel_rfl
@[simp] theorem tAr_4 : tAr Try.prog 4 = none := by kernel_rfl
@[simp] theorem tSt_4 : tSt Try.prog 4 = none := by kernel_rfl
@[simp] theorem und_22 : Try.prog.underlying 22 = some (Go.TypeDesc.slice 102) := by kernel_rfl
@[simp] theorem tI_22 : tI Try.prog 22 = some { sz := 1, bytes := 24, agg := false, zero := [Go.Value.slice none 0 0] } := by kernel_rfl
@[simp] theorem tSl_22 : tSl Try.prog 22 = some (102, { sz := 2, bytes := 16, agg := true, zero := [Go.Value.int Go.IntKind.i64 0, Go.Value.int Go.IntKind.i64 0] }) := by kernel_rfl
@[simp] theorem tAr_22 : tAr Try.prog 22 = none := by kernel_rfl
@[simp] theorem tSt_22 : tSt Try.prog 22 = none := by kernel_rfl
@[simp] theorem und_23 : Try.prog.underlying 23 = some (Go.TypeDesc.slice 50) := by kernel_rfl
@[simp] theorem tI_23 : tI Try.prog 23 = some { sz := 1, bytes := 24, agg := false, zero := [Go.Value.slice none 0 0] } := by kernel_rfl
@[simp] theorem tSl_23 : tSl Try.prog 23 = some (50, { sz := 8, bytes := 112, agg := true, zero := [Go.Value.int Go.IntKind.i64 0, Go.Value.int Go.IntKind.i64 0, Go.Value.int Go.IntKind.i64 0, Go.Value.int Go.IntKind.i64 0, Go.Value.slice none 0 0, Go.Value.int Go.IntKind.i64 0, Go.Value.slice none 0 0, Go.Value.slice none 0 0] }) := by kernel_rfl
@[simp] theorem tAr_23 : tAr Try.prog 23 = none := by kernel_rfl
@[simp] theorem tSt_23 : tSt Try.prog 23 = none := by kernel_rfl
@[simp] theorem tI_25 : tI Try.prog 25 = some { sz := 2, bytes := 48, agg := true, zero := [Go.Value.slice none 0 0, Go.Value.slice none 0 0] } := by kernel_rfl
@[simp] theorem tSl_25 : tSl Try.prog 25 = none := by kernel_rfl
@[simp] theorem tAr_25 : tAr Try.prog 25 = none := by kernel_rfl
@[simp] theorem tSt_25 : tSt Try.prog 25 = some [(0, { sz := 1, bytes := 24, agg := false, zero := [Go.Value.slice none 0 0] }), (1, { sz := 1, bytes := 24, agg := false, zero := [Go.Value.slice none 0 0] })] := by kernel_rfl
@[simp] theorem und_26 : Try.prog.underlying 26 = some (Go.TypeDesc.slice 35) := by kernel_rfl
@[simp] theorem tI_26 : tI Try.prog 26 = some { sz := 1, bytes := 24, agg := false, zero := [Go.Value.slice none 0 0] } := by kernel_rfl
@[simp] theorem tSl_26 : tSl Try.prog 26 = some (35, { sz := 1, bytes := 24, agg := false, zero := [Go.Value.slice none 0 0] }) := by kernel_rfl
@[simp] theorem tAr_26 : tAr Try.prog 26 = none := by kernel_rfl
@[simp] theorem tSt_26 : tSt Try.prog 26 = none := by kernel_rfl
@[simp] theorem und_27 : Try.prog.underlying 27 = some (Go.TypeDesc.slice 3) := by kernel_rfl
@[simp] theorem tI_27 : tI Try.prog 27 = some { sz := 1, bytes := 24, agg := false, zero := [Go.Value.slice none 0 0] } := by kernel_rfl
@[simp] theorem tSl_27 : tSl Try.prog 27 = some (3, { sz := 1, bytes := 8, agg := false, zero := [Go.Value.int Go.IntKind.i64 0] }) := by kernel_rfl
@[simp] theorem tAr_27 : tAr Try.prog 27 = none := by kernel_rfl
@[simp] theorem tSt_27 : tSt Try.prog 27 = none := by kernel_rfl
@[simp] theorem und_35 : Try.prog.underlying 35 = some (Go.TypeDesc.slice 2) := by kernel_rfl
@[simp] theorem tI_35 : tI Try.prog 35 = some { sz := 1, bytes := 24, agg := false, zero := [Go.Value.slice none 0 0] } := by kernel_rfl
@[simp] theorem tSl_35 : tSl Try.prog 35 = some (2, { sz := 1, bytes := 8, agg := false, zero := [Go.Value.int Go.IntKind.i64 0] }) := by kernel_rfl
@[simp] theorem tAr_35 : tAr Try.prog 35 = none := by kernel_rfl
@[simp] theorem tSt_35 : tSt Try.prog 35 = none := by kernel_rfl
@[simp] theorem tI_39 : tI Try.prog 39 = some { sz := 4, bytes := 32, agg := true, zero := [Go.Value.int Go.IntKind.i64 0, Go.Value.int Go.IntKind.i64 0, Go.Value.int Go.IntKind.i64 0, Go.Value.int Go.IntKind.i64 0] } := by kernel_rfl
@[simp] theorem tSl_39 : tSl Try.prog 39 = none := by kernel_rfl
@[simp] theorem tAr_39 : tAr Try.prog 39 = none := by kernel_rfl
@[simp] theorem tSt_39 : tSt Try.prog 39 = some [(0, { sz := 1, bytes := 8, agg := false, zero := [Go.Value.int Go.IntKind.i64 0] }), (1, { sz := 1, bytes := 8, agg := false, zero := [Go.Value.int Go.IntKind.i64 0] }), (2, { sz := 1, bytes := 8, agg := false, zero := [Go.Value.int Go.IntKind.i64 0] }), (3, { sz := 1, bytes := 8, agg := false, zero := [Go.Value.int Go.IntKind.i64 0] })] := by kernel_rfl
@[simp] theorem tEq_39 : tEq Try.prog 39 = some [Go.PM.LK.int Go.IntKind.i64, Go.PM.LK.int Go.IntKind.i64, Go.PM.LK.int Go.IntKind.i64, Go.PM.LK.int Go.IntKind.i64] := by kernel_rfl
@[simp] theorem und_40 : Try.prog.underlying 40 = some (Go.TypeDesc.tuple { toList := [39, 4] }) := by kernel_rfl
@[simp] theorem tI_40 : tI Try.prog 40 = some { sz := 1, bytes := 0, agg := false, zero := [Go.Value.tuple { toList := [Go.Value.agg { toList := [Go.Value.int Go.IntKind.i64 0, Go.Value.int Go.IntKind.i64 0, Go.Value.int Go.IntKind.i64 0, Go.Value.int Go.IntKind.i64 0] }, Go.Value.bool false] }] } := by kernel_rfl
@[simp] theorem tSl_40 : tSl Try.prog 40 = none := by kernel_rfl
@[simp] theorem tAr_40 : tAr Try.prog 40 = none := by kernel_rfl
@[simp] theorem tSt_40 : tSt Try.prog 40 = none := by kernel_rfl
@[simp] theorem und_44 : Try.prog.underlying 44 = some (Go.TypeDesc.slice 186) := by kernel_rfl
@[simp] theorem tI_44 : tI Try.prog 44 = some { sz := 1, bytes := 24, agg := false, zero := [Go.Value.slice none 0 0] } := by kernel_rfl
@[simp] theorem tSl_44 : tSl Try.prog 44 = some (186, { sz := 3, bytes := 24, agg := true, zero := [Go.Value.int Go.IntKind.i64 0, Go.Value.int Go.IntKind.i64 0, Go.Value.int Go.IntKind.i64 0] }) := by kernel_rfl
@[simp] theorem tAr_44 : tAr Try.prog 44 = none := by kernel_rfl
@[simp] theorem tSt_44 : tSt Try.prog 44 = none := by kernel_rfl
@[simp] theorem tI_46 : tI Try.prog 46 = some { sz := 3, bytes := 56, agg := true, zero := [Go.Value.int Go.IntKind.i64 0, Go.Value.slice none 0 0, Go.Value.slice none 0 0] } := by kernel_rfl
@[simp] theorem tSl_46 : tSl Try.prog 46 = none := by kernel_rfl
@[simp] theorem tAr_46 : tAr Try.prog 46 = none := by kernel_rfl
@[simp] theorem tSt_46 : tSt Try.prog 46 = some [(0, { sz := 1, bytes := 8, agg := false, zero := [Go.Value.int Go.IntKind.i64 0] }), (1, { sz := 1, bytes := 24, agg := false, zero := [Go.Value.slice none 0 0] }), (2, { sz := 1, bytes := 24, agg := false, zero := [Go.Value.slice none 0 0] })] := by kernel_rfl
@[simp] theorem tI_48 : tI Try.prog 48 = some { sz := 5, bytes := 88, agg := true, zero := [Go.Value.int Go.IntKind.i64 0, Go.Value.slice none 0 0, Go.Value.int Go.IntKind.i64 0, Go.Value.slice none 0 0, Go.Value.slice none 0 0] } := by kernel_rfl
@[simp] theorem tSl_48 : tSl Try.prog 48 = none := by kernel_rfl
@[simp] theorem tAr_48 : tAr Try.prog 48 = none := by kernel_rfl
@[simp] theorem tSt_48 : tSt Try.prog 48 = some [(0, { sz := 1, bytes := 8, agg := false, zero := [Go.Value.int Go.IntKind.i64 0] }), (1, { sz := 1, bytes := 24, agg := false, zero := [Go.Value.slice none 0 0] }), (2, { sz := 3, bytes := 56, agg := true, zero := [Go.Value.int Go.IntKind.i64 0, Go.Value.slice none 0 0, Go.Value.slice none 0 0] })] := by kernel_rfl
@[simp] theorem tI_50 : tI Try.prog 50 = some { sz := 8, bytes := 112, agg := true, zero := [Go.Value.int Go.IntKind.i64 0, Go.Value.int Go.IntKind.i64 0, Go.Value.int Go.IntKind.i64 0, Go.Value.int Go.IntKind.i64 0, Go.Value.slice none 0 0, Go.Value.int Go.IntKind.i64 0, Go.Value.slice none 0 0, Go.Value.slice none 0 0] } := by kernel_rfl
@[simp] theorem tSl_50 : tSl Try.prog 50 = none := by kernel_rfl
@[simp] theorem tAr_50 : tAr Try.prog 50 = none := by kernel_rfl
@[simp] theorem tSt_50 : tSt Try.prog 50 = some [(0, { sz := 1, bytes := 8, agg := false, zero := [Go.Value.int Go.IntKind.i64 0] }), (1, { sz := 1, bytes := 8, agg := false, zero := [Go.Value.int Go.IntKind.i64 0] }), (2, { sz := 1, bytes := 8, agg := false, zero := [Go.Value.int Go.IntKind.i64 0] }), (3, { sz := 5, bytes := 88, agg := true, zero := [Go.Value.int Go.IntKind.i64 0, Go.Value.slice none 0 0, Go.Value.int Go.IntKind.i64 0, Go.Value.slice none 0 0, Go.Value.slice none 0 0] })] := by kernel_rfl
@[simp] theorem und_53 : Try.prog.underlying 53 = some (Go.TypeDesc.int Go.IntKind.u64) := by kernel_rfl
@[simp] theorem tI_53 : tI Try.prog 53 = some { sz := 1, bytes := 8, agg := false, zero := [Go.Value.int Go.IntKind.u64 0] } := by kernel_rfl
@[simp] theorem tSl_53 : tSl Try.prog 53 = none := by kernel_rfl
@[simp] theorem tAr_53 : tAr Try.prog 53 = none := by kernel_rfl
@[simp] theorem tSt_53 : tSt Try.prog 53 = none := by kernel_rfl
@[simp] theorem und_54 : Try.prog.underlying 54 = some (Go.TypeDesc.slice 22) := by kernel_rfl
@[simp] theorem tI_54 : tI Try.prog 54 = some { sz := 1, bytes := 24, agg := false, zero := [Go.Value.slice none 0 0] } := by kernel_rfl
@[simp] theorem tSl_54 : tSl Try.prog 54 = some (22, { sz := 1, bytes := 24, agg := false, zero := [Go.Value.slice none 0 0] }) := by kernel_rfl
@[simp] theorem tAr_54 : tAr Try.prog 54 = none := by kernel_rfl
@[simp] theorem tSt_54 : tSt Try.prog 54 = none := by kernel_rfl
@[simp] theorem und_59 : Try.prog.underlying 59 = some (Go.TypeDesc.slice 4) := by kernel_rfl
@[simp] theorem tI_59 : tI Try.prog 59 = some { sz := 1, bytes := 24, agg := false, zero := [Go.Value.slice none 0 0] } := by kernel_rfl
@[simp] theorem tSl_59 : tSl Try.prog 59 = some (4, { sz := 1, bytes := 1, agg := false, zero := [Go.Value.bool false] }) := by kernel_rfl
@[simp] theorem tAr_59 : tAr Try.prog 59 = none := by kernel_rfl
@[simp] theorem tSt_59 : tSt Try.prog 59 = none := by kernel_rfl
@[simp] theorem tI_61 : tI Try.prog 61 = some { sz := 1, bytes := 8, agg := false, zero := [Go.Value.nilFunc] } := by kernel_rfl
@[simp] theorem tSl_61 : tSl Try.prog 61 = none := by kernel_rfl
@[simp] theorem tAr_61 : tAr Try.prog 61 = none := by kernel_rfl
@[simp] theorem tSt_61 : tSt Try.prog 61 = none := by kernel_rfl
@[simp] theorem und_69 : Try.prog.underlying 69 = some (Go.TypeDesc.slice 90) := by kernel_rfl
@[simp] theorem tI_69 : tI Try.prog 69 = some { sz := 1, bytes := 24, agg := false, zero := [Go.Value.slice none 0 0] } := by kernel_rfl
@[simp] theorem tSl_69 : tSl Try.prog 69 = some (90, { sz := 2, bytes := 48, agg := true, zero := [Go.Value.slice none 0 0, Go.Value.slice none 0 0] }) := by kernel_rfl
@[simp] theorem tAr_69 : tAr Try.prog 69 = none := by kernel_rfl
@[simp] theorem tSt_69 : tSt Try.prog 69 = none := by kernel_rfl
@[simp] theorem und_70 : Try.prog.underlying 70 = some (Go.TypeDesc.slice 144) := by kernel_rfl
@[simp] theorem tI_70 : tI Try.prog 70 = some { sz := 1, bytes := 24, agg := false, zero := [Go.Value.slice none 0 0] } := by kernel_rfl
@[simp] theorem tSl_70 : tSl Try.prog 70 = some (144, { sz := 6, bytes := 48, agg := true, zero := [Go.Value.int Go.IntKind.i64 0, Go.Value.int Go.IntKind.i64 0, Go.Value.int Go.IntKind.i64 0, Go.Value.int Go.IntKind.i64 0, Go.Value.int Go.IntKind.i64 0, Go.Value.int Go.IntKind.i64 0] }) := by kernel_rfl
@[simp] theorem tAr_70 : tAr Try.prog 70 = none := by kernel_rfl
@[simp] theorem tSt_70 : tSt Try.prog 70 = none := by kernel_rfl
@[simp] theorem tI_72 : tI Try.prog 72 = some { sz := 2, bytes := 48, agg := true, zero := [Go.Value.slice none 0 0, Go.Value.slice none 0 0] } := by kernel_rfl
@[simp] theorem tSl_72 : tSl Try.prog 72 = none := by kernel_rfl
@[simp] theorem tAr_72 : tAr Try.prog 72 = none := by kernel_rfl
@[simp] theorem tSt_72 : tSt Try.prog 72 = some [(0, { sz := 1, bytes := 24, agg := false, zero := [Go.Value.slice none 0 0] }), (1, { sz := 1, bytes := 24, agg := false, zero := [Go.Value.slice none 0 0] })] := by kernel_rfl
@[simp] theorem und_73 : Try.prog.underlying 73 = some (Go.TypeDesc.slice 27) := by kernel_rfl
@[simp] theorem tI_73 : tI Try.prog 73 = some { sz := 1, bytes := 24, agg := false, zero := [Go.Value.slice none 0 0] } := by kernel_rfl
@[simp] theorem tSl_73 : tSl Try.prog 73 = some (27, { sz := 1, bytes := 24, agg := false, zero := [Go.Value.slice none 0 0] }) := by kernel_rfl
@[simp] theorem tAr_73 : tAr Try.prog 73 = none := by kernel_rfl
@[simp] theorem tSt_73 : tSt Try.prog 73 = none := by kernel_rfl
@[simp] theorem und_88 : Try.prog.underlying 88 = some (Go.TypeDesc.slice 139) := by kernel_rfl
@[simp] theorem tI_88 : tI Try.prog 88 = some { sz := 1, bytes := 24, agg := false, zero := [Go.Value.slice none 0 0] } := by kernel_rfl
@[simp] theorem tSl_88 : tSl Try.prog 88 = some (139, { sz := 12, bytes := 160, agg := true, zero := [Go.Value.int Go.IntKind.i64 0, Go.Value.int Go.IntKind.i64 0, Go.Value.int Go.IntKind.i64 0, Go.Value.int Go.IntKind.i64 0, Go.Value.int Go.IntKind.i64 0, Go.Value.slice none 0 0, Go.Value.int Go.IntKind.i64 0, Go.Value.int Go.IntKind.i64 0, Go.Value.slice none 0 0, Go.Value.int Go.IntKind.i64 0, Go.Value.slice none 0 0, Go.Value.slice none 0 0] }) := by kernel_rfl
@[simp] theorem tAr_88 : tAr Try.prog 88 = none := by kernel_rfl
@[simp] theorem tSt_88 : tSt Try.prog 88 = none := by kernel_rfl
@[simp] theorem tI_90 : tI Try.prog 90 = some { sz := 2, bytes := 48, agg := true, zero := [Go.Value.slice none 0 0, Go.Value.slice none 0 0] } := by kernel_rfl
@[simp] theorem tSl_90 : tSl Try.prog 90 = none := by kernel_rfl
@[simp] theorem tAr_90 : tAr Try.prog 90 = none := by kernel_rfl
@[simp] theorem tSt_90 : tSt Try.prog 90 = some [(0, { sz := 1, bytes := 24, agg := false, zero := [Go.Value.slice none 0 0] }), (1, { sz := 1, bytes := 24, agg := false, zero := [Go.Value.slice none 0 0] })] := by kernel_rfl
@[simp] theorem tI_102 : tI Try.prog 102 = some { sz := 2, bytes := 16, agg := true, zero := [Go.Value.int Go.IntKind.i64 0, Go.Value.int Go.IntKind.i64 0] } := by kernel_rfl
@[simp] theorem tSl_102 : tSl Try.prog 102 = none := by kernel_rfl
@[simp] theorem tAr_102 : tAr Try.prog 102 = none := by kernel_rfl
@[simp] theorem tSt_102 : tSt Try.prog 102 = some [(0, { sz := 1, bytes := 8, agg := false, zero := [Go.Value.int Go.IntKind.i64 0] }), (1, { sz := 1, bytes := 8, agg := false, zero := [Go.Value.int Go.IntKind.i64 0] })] := by kernel_rfl
@[simp] theorem tEq_102 : tEq Try.prog 102 = some [Go.PM.LK.int Go.IntKind.i64, Go.PM.LK.int Go.IntKind.i64] := by kernel_rfl
@[simp] theorem tI_109 : tI Try.prog 109 = some { sz := 2, bytes := 16, agg := true, zero := [Go.Value.int Go.IntKind.i64 0, Go.Value.int Go.IntKind.i64 0] } := by kernel_rfl
@[simp] theorem tSl_109 : tSl Try.prog 109 = none := by kernel_rfl
@[simp] theorem tAr_109 : tAr Try.prog 109 = none := by kernel_rfl
@[simp] theorem tSt_109 : tSt Try.prog 109 = some [(0, { sz := 1, bytes := 8, agg := false, zero := [Go.Value.int Go.IntKind.i64 0] }), (1, { sz := 1, bytes := 8, agg := false, zero := [Go.Value.int Go.IntKind.i64 0] })] := by kernel_rfl
@[simp] theorem tEq_109 : tEq Try.prog 109 = some [Go.PM.LK.int Go.IntKind.i64, Go.PM.LK.int Go.IntKind.i64] := by kernel_rfl
@[simp] theorem tI_114 : tI Try.prog 114 = some { sz := 1, bytes := 8, agg := false, zero := [Go.Value.nilFunc] } := by kernel_rfl
@[simp] theorem tSl_114 : tSl Try.prog 114 = none := by kernel_rfl
@[simp] theorem tAr_114 : tAr Try.prog 114 = none := by kernel_rfl
@[simp] theorem tSt_114 : tSt Try.prog 114 = none := by kernel_rfl
@[simp] theorem und_132 : Try.prog.underlying 132 = some (Go.TypeDesc.slice 134) := by kernel_rfl
@[simp] theorem tI_132 : tI Try.prog 132 = some { sz := 1, bytes := 24, agg := false, zero := [Go.Value.slice none 0 0] } := by kernel_rfl
@[simp] theorem tSl_132 : tSl Try.prog 132 = some (134, { sz := 3, bytes := 40, agg := true, zero := [Go.Value.int Go.IntKind.i64 0, Go.Value.int Go.IntKind.i64 0, Go.Value.slice none 0 0] }) := by kernel_rfl
@[simp] theorem tAr_132 : tAr Try.prog 132 = none := by kernel_rfl
@[simp] theorem tSt_132 : tSt Try.prog 132 = none := by kernel_rfl
@[simp] theorem tI_134 : tI Try.prog 134 = some { sz := 3, bytes := 40, agg := true, zero := [Go.Value.int Go.IntKind.i64 0, Go.Value.int Go.IntKind.i64 0, Go.Value.slice none 0 0] } := by kernel_rfl
@[simp] theorem tSl_134 : tSl Try.prog 134 = none := by kernel_rfl
@[simp] theorem tAr_134 : tAr Try.prog 134 = none := by kernel_rfl
@[simp] theorem tSt_134 : tSt Try.prog 134 = some [(0, { sz := 1, bytes := 8, agg := false, zero := [Go.Value.int Go.IntKind.i64 0] }), (1, { sz := 1, bytes := 8, agg := false, zero := [Go.Value.int Go.IntKind.i64 0] }), (2, { sz := 1, bytes := 24, agg := false, zero := [Go.Value.slice none 0 0] })] := by kernel_rfl
@[simp] theorem tI_136 : tI Try.prog 136 = some { sz := 8, bytes := 128, agg := true, zero := [Go.Value.int Go.IntKind.i64 0, Go.Value.slice none 0 0, Go.Value.int Go.IntKind.i64 0, Go.Value.int Go.IntKind.i64 0, Go.Value.slice none 0 0, Go.Value.int Go.IntKind.i64 0, Go.Value.slice none 0 0, Go.Value.slice none 0 0] } := by kernel_rfl
@[simp] theorem tSl_136 : tSl Try.prog 136 = none := by kernel_rfl
@[simp] theorem tAr_136 : tAr Try.prog 136 = none := by kernel_rfl
@[simp] theorem tSt_136 : tSt Try.prog 136 = some [(0, { sz := 1, bytes := 8, agg := false, zero := [Go.Value.int Go.IntKind.i64 0] }), (1, { sz := 1, bytes := 24, agg := false, zero := [Go.Value.slice none 0 0] }), (2, { sz := 3, bytes := 40, agg := true, zero := [Go.Value.int Go.IntKind.i64 0, Go.Value.int Go.IntKind.i64 0, Go.Value.slice none 0 0] }), (5, { sz := 3, bytes := 56, agg := true, zero := [Go.Value.int Go.IntKind.i64 0, Go.Value.slice none 0 0, Go.Value.slice none 0 0] })] := by kernel_rfl
@[simp] theorem tI_139 : tI Try.prog 139 = some { sz := 12, bytes := 160, agg := true, zero := [Go.Value.int Go.IntKind.i64 0, Go.Value.int Go.IntKind.i64 0, Go.Value.int Go.IntKind.i64 0, Go.Value.int Go.IntKind.i64 0, Go.Value.int Go.IntKind.i64 0, Go.Value.slice none 0 0, Go.Value.int Go.IntKind.i64 0, Go.Value.int Go.IntKind.i64 0, Go.Value.slice none 0 0, Go.Value.int Go.IntKind.i64 0, Go.Value.slice none 0 0, Go.Value.slice none 0 0] } := by kernel_rfl
@[simp] theorem tSl_139 : tSl Try.prog 139 = none := by kernel_rfl
@[simp] theorem tAr_139 : tAr Try.prog 139 = none := by kernel_rfl
@[simp] theorem tSt_139 : tSt Try.prog 139 = some [(0, { sz := 1, bytes := 8, agg := false, zero := [Go.Value.int Go.IntKind.i64 0] }), (1, { sz := 1, bytes := 8, agg := false, zero := [Go.Value.int Go.IntKind.i64 0] }), (2, { sz := 1, bytes := 8, agg := false, zero := [Go.Value.int Go.IntKind.i64 0] }), (3, { sz := 1, bytes := 8, agg := false, zero := [Go.Value.int Go.IntKind.i64 0] }), (4, { sz := 8, bytes := 128, agg := true, zero := [Go.Value.int Go.IntKind.i64 0, Go.Value.slice none 0 0, Go.Value.int Go.IntKind.i64 0, Go.Value.int Go.IntKind.i64 0, Go.Value.slice none 0 0, Go.Value.int Go.IntKind.i64 0, Go.Value.slice none 0 0, Go.Value.slice none 0 0] })] := by kernel_rfl
@[simp] theorem tI_141 : tI Try.prog 141 = some { sz := 3, bytes := 24, agg := true, zero := [Go.Value.int Go.IntKind.i64 0, Go.Value.int Go.IntKind.i64 0, Go.Value.int Go.IntKind.i64 0] } := by kernel_rfl
@[simp] theorem tSl_141 : tSl Try.prog 141 = none := by kernel_rfl
@[simp] theorem tAr_141 : tAr Try.prog 141 = none := by kernel_rfl
@[simp] theorem tSt_141 : tSt Try.prog 141 = some [(0, { sz := 1, bytes := 8, agg := false, zero := [Go.Value.int Go.IntKind.i64 0] }), (1, { sz := 1, bytes := 8, agg := false, zero := [Go.Value.int Go.IntKind.i64 0] }), (2, { sz := 1, bytes := 8, agg := false, zero := [Go.Value.int Go.IntKind.i64 0] })] := by kernel_rfl
@[simp] theorem tEq_141 : tEq Try.prog 141 = some [Go.PM.LK.int Go.IntKind.i64, Go.PM.LK.int Go.IntKind.i64, Go.PM.LK.int Go.IntKind.i64] := by kernel_rfl
@[simp] theorem tI_144 : tI Try.prog 144 = some { sz := 6, bytes := 48, agg := true, zero := [Go.Value.int Go.IntKind.i64 0, Go.Value.int Go.IntKind.i64 0, Go.Value.int Go.IntKind.i64 0, Go.Value.int Go.IntKind.i64 0, Go.Value.int Go.IntKind.i64 0, Go.Value.int Go.IntKind.i64 0] } := by kernel_rfl
@[simp] theorem tSl_144 : tSl Try.prog 144 = none := by kernel_rfl
@[simp] theorem tAr_144 : tAr Try.prog 144 = none := by kernel_rfl
@[simp] theorem tSt_144 : tSt Try.prog 144 = some [(0, { sz := 3, bytes := 24, agg := true, zero := [Go.Value.int Go.IntKind.i64 0, Go.Value.int Go.IntKind.i64 0, Go.Value.int Go.IntKind.i64 0] }), (3, { sz := 3, bytes := 24, agg := true, zero := [Go.Value.int Go.IntKind.i64 0, Go.Value.int Go.IntKind.i64 0, Go.Value.int Go.IntKind.i64 0] })] := by kernel_rfl
@[simp] theorem tEq_144 : tEq Try.prog 144 = some [Go.PM.LK.int Go.IntKind.i64, Go.PM.LK.int Go.IntKind.i64, Go.PM.LK.int Go.IntKind.i64, Go.PM.LK.int Go.IntKind.i64, Go.PM.LK.int Go.IntKind.i64, Go.PM.LK.int Go.IntKind.i64] := by kernel_rfl
@[simp] theorem und_147 : Try.prog.underlying 147 = some (Go.TypeDesc.map 193 4) := by kernel_rfl
@[simp] theorem tI_147 : tI Try.prog 147 = some { sz := 1, bytes := 8, agg := false, zero := [Go.Value.map none] } := by kernel_rfl
@[simp] theorem tSl_147 : tSl Try.prog 147 = none := by kernel_rfl
@[simp] theorem tAr_147 : tAr Try.prog 147 = none := by kernel_rfl
@[simp] theorem tSt_147 : tSt Try.prog 147 = none := by kernel_rfl
@[simp] theorem tMp_147 : tMp Try.prog 147 = some ([Go.PM.LK.int Go.IntKind.i64, Go.PM.LK.int Go.IntKind.i64, Go.PM.LK.int Go.IntKind.i64, Go.PM.LK.int Go.IntKind.i64, Go.PM.LK.int Go.IntKind.i64, Go.PM.LK.int Go.IntKind.i64], Go.Value.bool false) := by kernel_rfl
@[simp] theorem tI_151 : tI Try.prog 151 = some { sz := 5, bytes := 72, agg := true, zero := [Go.Value.map none, Go.Value.int Go.IntKind.i64 0, Go.Value.slice none 0 0, Go.Value.slice none 0 0, Go.Value.int Go.IntKind.i64 0] } := by kernel_rfl
@[simp] theorem tSl_151 : tSl Try.prog 151 = none := by kernel_rfl
@[simp] theorem tAr_151 : tAr Try.prog 151 = none := by kernel_rfl
@[simp] theorem tSt_151 : tSt Try.prog 151 = some [(0, { sz := 1, bytes := 8, agg := false, zero := [Go.Value.map none] }), (1, { sz := 1, bytes := 8, agg := false, zero := [Go.Value.int Go.IntKind.i64 0] }), (2, { sz := 1, bytes := 24, agg := false, zero := [Go.Value.slice none 0 0] }), (3, { sz := 1, bytes := 24, agg := false, zero := [Go.Value.slice none 0 0] }), (4, { sz := 1, bytes := 8, agg := false, zero := [Go.Value.int Go.IntKind.i64 0] })] := by kernel_rfl
@[simp] theorem tI_161 : tI Try.prog 161 = some { sz := 2, bytes := 32, agg := true, zero := [Go.Value.slice none 0 0, Go.Value.int Go.IntKind.i64 0] } := by kernel_rfl
@[simp] theorem tSl_161 : tSl Try.prog 161 = none := by kernel_rfl
@[simp] theorem tAr_161 : tAr Try.prog 161 = none := by kernel_rfl
@[simp] theorem tSt_161 : tSt Try.prog 161 = some [(0, { sz := 1, bytes := 24, agg := false, zero := [Go.Value.slice none 0 0] }), (1, { sz := 1, bytes := 8, agg := false, zero := [Go.Value.int Go.IntKind.i64 0] })] := by kernel_rfl
@[simp] theorem tI_164 : tI Try.prog 164 = some { sz := 2, bytes := 16, agg := true, zero := [Go.Value.int Go.IntKind.i64 0, Go.Value.int Go.IntKind.i64 0] } := by kernel_rfl
@[simp] theorem tSl_164 : tSl Try.prog 164 = none := by kernel_rfl
@[simp] theorem tAr_164 : tAr Try.prog 164 = none := by kernel_rfl
@[simp] theorem tSt_164 : tSt Try.prog 164 = some [(0, { sz := 1, bytes := 8, agg := false, zero := [Go.Value.int Go.IntKind.i64 0] }), (1, { sz := 1, bytes := 8, agg := false, zero := [Go.Value.int Go.IntKind.i64 0] })] := by kernel_rfl
@[simp] theorem tEq_164 : tEq Try.prog 164 = some [Go.PM.LK.int Go.IntKind.i64, Go.PM.LK.int Go.IntKind.i64] := by kernel_rfl
@[simp] theorem tI_172 : tI Try.prog 172 = some { sz := 1, bytes := 8, agg := false, zero := [Go.Value.nilFunc] } := by kernel_rfl
@[simp] theorem tSl_172 : tSl Try.prog 172 = none := by kernel_rfl
@[simp] theorem tAr_172 : tAr Try.prog 172 = none := by kernel_rfl
@[simp] theorem tSt_172 : tSt Try.prog 172 = none := by kernel_rfl
@[simp] theorem tI_174 : tI Try.prog 174 = some { sz := 1, bytes := 8, agg := false, zero := [Go.Value.nilFunc] } := by kernel_rfl
@[simp] theorem tSl_174 : tSl Try.prog 174 = none := by kernel_rfl
@[simp] theorem tAr_174 : tAr Try.prog 174 = none := by kernel_rfl
@[simp] theorem tSt_174 : tSt Try.prog 174 = none := by kernel_rfl
@[simp] theorem und_176 : Try.prog.underlying 176 = some (Go.TypeDesc.int Go.IntKind.u64) := by kernel_rfl
@[simp] theorem tI_176 : tI Try.prog 176 = some { sz := 1, bytes := 8, agg := false, zero := [Go.Value.int Go.IntKind.u64 0] } := by kernel_rfl
@[simp] theorem tSl_176 : tSl Try.prog 176 = none := by kernel_rfl
@[simp] theorem tAr_176 : tAr Try.prog 176 = none := by kernel_rfl
@[simp] theorem tSt_176 : tSt Try.prog 176 = none := by kernel_rfl
@[simp] theorem und_185 : Try.prog.underlying 185 = some (Go.TypeDesc.array 3 2) := by kernel_rfl
@[simp] theorem tI_185 : tI Try.prog 185 = some { sz := 3, bytes := 24, agg := true, zero := [Go.Value.int Go.IntKind.i64 0, Go.Value.int Go.IntKind.i64 0, Go.Value.int Go.IntKind.i64 0] } := by kernel_rfl
@[simp] theorem tSl_185 : tSl Try.prog 185 = none := by kernel_rfl
@[simp] theorem tAr_185 : tAr Try.prog 185 = some (3, { sz := 1, bytes := 8, agg := false, zero := [Go.Value.int Go.IntKind.i64 0] }) := by kernel_rfl
@[simp] theorem tSt_185 : tSt Try.prog 185 = none := by kernel_rfl
@[simp] theorem tEq_185 : tEq Try.prog 185 = some [Go.PM.LK.int Go.IntKind.i64, Go.PM.LK.int Go.IntKind.i64, Go.PM.LK.int Go.IntKind.i64] := by kernel_rfl
@[simp] theorem und_186 : Try.prog.underlying 186 = some (Go.TypeDesc.array 3 2) := by kernel_rfl
@[simp] theorem tI_186 : tI Try.prog 186 = some { sz := 3, bytes := 24, agg := true, zero := [Go.Value.int Go.IntKind.i64 0, Go.Value.int Go.IntKind.i64 0, Go.Value.int Go.IntKind.i64 0] } := by kernel_rfl
@[simp] theorem tSl_186 : tSl Try.prog 186 = none := by kernel_rfl
@[simp] theorem tAr_186 : tAr Try.prog 186 = some (3, { sz := 1, bytes := 8, agg := false, zero := [Go.Value.int Go.IntKind.i64 0] }) := by kernel_rfl
@[simp] theorem tSt_186 : tSt Try.prog 186 = none := by kernel_rfl
@[simp] theorem tEq_186 : tEq Try.prog 186 = some [Go.PM.LK.int Go.IntKind.i64, Go.PM.LK.int Go.IntKind.i64, Go.PM.LK.int Go.IntKind.i64] := by kernel_rfl
@[simp] theorem und_189 : Try.prog.underlying 189 = some (Go.TypeDesc.slice 141) := by kernel_rfl
@[simp] theorem tI_189 : tI Try.prog 189 = some { sz := 1, bytes := 24, agg := false, zero := [Go.Value.slice none 0 0] } := by kernel_rfl
@[simp] theorem tSl_189 : tSl Try.prog 189 = some (141, { sz := 3, bytes := 24, agg := true, zero := [Go.Value.int Go.IntKind.i64 0, Go.Value.int Go.IntKind.i64 0, Go.Value.int Go.IntKind.i64 0] }) := by kernel_rfl
@[simp] theorem tAr_189 : tAr Try.prog 189 = none := by kernel_rfl
@[simp] theorem tSt_189 : tSt Try.prog 189 = none := by kernel_rfl
@[simp] theorem und_193 : Try.prog.underlying 193 = some (Go.TypeDesc.array 2 141) := by kernel_rfl
@[simp] theorem tI_193 : tI Try.prog 193 = some { sz := 6, bytes := 48, agg := true, zero := [Go.Value.int Go.IntKind.i64 0, Go.Value.int Go.IntKind.i64 0, Go.Value.int Go.IntKind.i64 0, Go.Value.int Go.IntKind.i64 0, Go.Value.int Go.IntKind.i64 0, Go.Value.int Go.IntKind.i64 0] } := by kernel_rfl
@[simp] theorem tSl_193 : tSl Try.prog 193 = none := by kernel_rfl
@[simp] theorem tAr_193 : tAr Try.prog 193 = some (2, { sz := 3, bytes := 24, agg := true, zero := [Go.Value.int Go.IntKind.i64 0, Go.Value.int Go.IntKind.i64 0, Go.Value.int Go.IntKind.i64 0] }) := by kernel_rfl
@[simp] theorem tSt_193 : tSt Try.prog 193 = none := by kernel_rfl
@[simp] theorem tEq_193 : tEq Try.prog 193 = some [Go.PM.LK.int Go.IntKind.i64, Go.PM.LK.int Go.IntKind.i64, Go.PM.LK.int Go.IntKind.i64, Go.PM.LK.int Go.IntKind.i64, Go.PM.LK.int Go.IntKind.i64, Go.PM.LK.int Go.IntKind.i64] := by kernel_rfl
@[simp] theorem und_197 : Try.prog.underlying 197 = some (Go.TypeDesc.slice 59) := by kernel_rfl
@[simp] theorem tI_197 : tI Try.prog 197 = some { sz := 1, bytes := 24, agg := false, zero := [Go.Value.slice none 0 0] } := by kernel_rfl
@[simp] theorem tSl_197 : tSl Try.prog 197 = some (59, { sz := 1, bytes := 24, agg := false, zero := [Go.Value.slice none 0 0] }) := by kernel_rfl
@[simp] theorem tAr_197 : tAr Try.prog 197 = none := by kernel_rfl
@[simp] theorem tSt_197 : tSt Try.prog 197 = none := by kernel_rfl
@[simp] theorem tI_202 : tI Try.prog 202 = some { sz := 1, bytes := 8, agg := false, zero := [Go.Value.nilFunc] } := by kernel_rfl
@[simp] theorem tSl_202 : tSl Try.prog 202 = none := by kernel_rfl
@[simp] theorem tAr_202 : tAr Try.prog 202 = none := by kernel_rfl
@[simp] theorem tSt_202 : tSt Try.prog 202 = none := by kernel_rfl
@[simp] theorem tI_210 : tI Try.prog 210 = some { sz := 1, bytes := 8, agg := false, zero := [Go.Value.nilFunc] } := by kernel_rfl
@[simp] theorem tSl_210 : tSl Try.prog 210 = none := by kernel_rfl
@[simp] theorem tAr_210 : tAr Try.prog 210 = none := by kernel_rfl
@[simp] theorem tSt_210 : tSt Try.prog 210 = none := by kernel_rfl
theorem mixed : Try.prog.follows .mixedOrders = true := by kernel_rfl
end Go.Proofs.Ytmljpbhmdjpbaaa
