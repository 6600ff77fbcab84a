/- Part of the proof: an abstract machine of our own over the model; no condition. -/
import Derived.Test.YtdicnaninnmoeaaGreatAmQ
set_option linter.unusedSectionVars false
set_option linter.unusedSimpArgs false
set_option linter.unusedVariables false
set_option linter.unnecessarySimpa false
/- Types of the program (printed by a program of ours). -/
set_option maxRecDepth 100000
namespace Go.Am.Q
open Go Go.Am Go.Proofs

theorem ty1 : E.ty 1 = some ⟨.func #[] #[] false, 1, 8, .nilFunc⟩ := by kernel_rfl
theorem ty2 : E.ty 2 = some ⟨.int .i64, 1, 8, (.int .i64 0)⟩ := by kernel_rfl
theorem ty3 : E.ty 3 = some ⟨.int .i64, 1, 8, (.int .i64 0)⟩ := by kernel_rfl
theorem ty4 : E.ty 4 = some ⟨.bool, 1, 1, (.bool false)⟩ := by kernel_rfl
theorem ty5 : E.ty 5 = some ⟨.int .u8, 1, 1, (.int .u8 0)⟩ := by kernel_rfl
theorem ty6 : E.ty 6 = some ⟨.int .u8, 1, 1, (.int .u8 0)⟩ := by kernel_rfl
theorem ty7 : E.ty 7 = some ⟨.struct #[{ name := "x", type := 2, offset := 0, embedded := false, tag := "", pkgPath := "runtime", byteOffset := 0 }, { name := "y", type := 3, offset := 1, embedded := false, tag := "", pkgPath := "runtime", byteOffset := 8 }, { name := "signed", type := 4, offset := 2, embedded := false, tag := "", pkgPath := "runtime", byteOffset := 16 }, { name := "code", type := 6, offset := 3, embedded := false, tag := "", pkgPath := "runtime", byteOffset := 17 }], 4, 24, (.agg #[.int .i64 0, .int .i64 0, .bool false, .int .u8 0])⟩ := by kernel_rfl
theorem ty8 : E.ty 8 = some ⟨.struct #[{ name := "x", type := 2, offset := 0, embedded := false, tag := "", pkgPath := "runtime", byteOffset := 0 }, { name := "y", type := 3, offset := 1, embedded := false, tag := "", pkgPath := "runtime", byteOffset := 8 }, { name := "signed", type := 4, offset := 2, embedded := false, tag := "", pkgPath := "runtime", byteOffset := 16 }, { name := "code", type := 6, offset := 3, embedded := false, tag := "", pkgPath := "runtime", byteOffset := 17 }], 4, 24, (.agg #[.int .i64 0, .int .i64 0, .bool false, .int .u8 0])⟩ := by kernel_rfl
theorem ty9 : E.ty 9 = some ⟨.string, 1, 16, (.string ⟨#[]⟩)⟩ := by kernel_rfl
theorem ty10 : E.ty 10 = some ⟨.string, 1, 16, (.string ⟨#[]⟩)⟩ := by kernel_rfl
theorem ty11 : E.ty 11 = some ⟨.string, 1, 16, (.string ⟨#[]⟩)⟩ := by kernel_rfl
theorem ty12 : E.ty 12 = some ⟨.int .u64, 1, 8, (.int .u64 0)⟩ := by kernel_rfl
theorem ty13 : E.ty 13 = some ⟨.struct #[{ name := "msg", type := 9, offset := 0, embedded := false, tag := "", pkgPath := "runtime", byteOffset := 0 }, { name := "addr", type := 12, offset := 1, embedded := false, tag := "", pkgPath := "runtime", byteOffset := 16 }], 2, 24, (.agg #[.string ⟨#[]⟩, .int .u64 0])⟩ := by kernel_rfl
theorem ty14 : E.ty 14 = some ⟨.struct #[{ name := "msg", type := 9, offset := 0, embedded := false, tag := "", pkgPath := "runtime", byteOffset := 0 }, { name := "addr", type := 12, offset := 1, embedded := false, tag := "", pkgPath := "runtime", byteOffset := 16 }], 2, 24, (.agg #[.string ⟨#[]⟩, .int .u64 0])⟩ := by kernel_rfl
theorem ty15 : E.ty 15 = some ⟨.pointer 342, 1, 8, (.pointer none)⟩ := by kernel_rfl
theorem ty16 : E.ty 16 = some ⟨.pointer 345, 1, 8, (.pointer none)⟩ := by kernel_rfl
theorem ty17 : E.ty 17 = some ⟨.pointer 352, 1, 8, (.pointer none)⟩ := by kernel_rfl
theorem ty18 : E.ty 18 = some ⟨.struct #[{ name := "typ", type := 17, offset := 0, embedded := false, tag := "", pkgPath := "internal/runtime/maps", byteOffset := 0 }], 1, 8, (.agg #[.pointer none])⟩ := by kernel_rfl
theorem ty19 : E.ty 19 = some ⟨.struct #[{ name := "typ", type := 17, offset := 0, embedded := false, tag := "", pkgPath := "internal/runtime/maps", byteOffset := 0 }], 1, 8, (.agg #[.pointer none])⟩ := by kernel_rfl
theorem ty20 : E.ty 20 = some ⟨.interface #[], 1, 16, .nilIface⟩ := by kernel_rfl
theorem ty21 : E.ty 21 = some ⟨.int .i32, 1, 4, (.int .i32 0)⟩ := by kernel_rfl
theorem ty22 : E.ty 22 = some ⟨.slice 32, 1, 24, (.slice none 0 0)⟩ := by kernel_rfl
theorem ty23 : E.ty 23 = some ⟨.slice 5, 1, 24, (.slice none 0 0)⟩ := by kernel_rfl
theorem ty24 : E.ty 24 = some ⟨.func #[] #[4] false, 1, 8, .nilFunc⟩ := by kernel_rfl
theorem ty25 : E.ty 25 = some ⟨.struct #[{ name := "b", type := 23, offset := 0, embedded := false, tag := "", pkgPath := "fascicle/cursor", byteOffset := 0 }], 1, 24, (.agg #[.slice none 0 0])⟩ := by kernel_rfl
theorem ty26 : E.ty 26 = some ⟨.struct #[{ name := "b", type := 23, offset := 0, embedded := false, tag := "", pkgPath := "fascicle/cursor", byteOffset := 0 }], 1, 24, (.agg #[.slice none 0 0])⟩ := by kernel_rfl
theorem ty27 : E.ty 27 = some ⟨.func #[28, 22] #[] false, 1, 8, .nilFunc⟩ := by kernel_rfl
theorem ty28 : E.ty 28 = some ⟨.pointer 26, 1, 8, (.pointer none)⟩ := by kernel_rfl
theorem ty29 : E.ty 29 = some ⟨.slice 33, 1, 24, (.slice none 0 0)⟩ := by kernel_rfl
theorem ty30 : E.ty 30 = some ⟨.int .u64, 1, 8, (.int .u64 0)⟩ := by kernel_rfl
theorem ty31 : E.ty 31 = some ⟨.struct #[{ name := "Number", type := 30, offset := 0, embedded := false, tag := "", pkgPath := "", byteOffset := 0 }, { name := "Bytes", type := 3, offset := 1, embedded := false, tag := "", pkgPath := "", byteOffset := 8 }, { name := "Erased", type := 3, offset := 2, embedded := false, tag := "", pkgPath := "", byteOffset := 16 }, { name := "Chunks", type := 3, offset := 3, embedded := false, tag := "", pkgPath := "", byteOffset := 24 }, { name := "Empty", type := 3, offset := 4, embedded := false, tag := "", pkgPath := "", byteOffset := 32 }, { name := "Found", type := 3, offset := 5, embedded := false, tag := "", pkgPath := "", byteOffset := 40 }, { name := "Good", type := 3, offset := 6, embedded := false, tag := "", pkgPath := "", byteOffset := 48 }, { name := "Whole", type := 4, offset := 7, embedded := false, tag := "", pkgPath := "", byteOffset := 56 }], 8, 64, (.agg #[.int .u64 0, .int .i64 0, .int .i64 0, .int .i64 0, .int .i64 0, .int .i64 0, .int .i64 0, .bool false])⟩ := by kernel_rfl
theorem ty32 : E.ty 32 = some ⟨.struct #[{ name := "Number", type := 30, offset := 0, embedded := false, tag := "", pkgPath := "", byteOffset := 0 }, { name := "Bytes", type := 3, offset := 1, embedded := false, tag := "", pkgPath := "", byteOffset := 8 }, { name := "Erased", type := 3, offset := 2, embedded := false, tag := "", pkgPath := "", byteOffset := 16 }, { name := "Chunks", type := 3, offset := 3, embedded := false, tag := "", pkgPath := "", byteOffset := 24 }, { name := "Empty", type := 3, offset := 4, embedded := false, tag := "", pkgPath := "", byteOffset := 32 }, { name := "Found", type := 3, offset := 5, embedded := false, tag := "", pkgPath := "", byteOffset := 40 }, { name := "Good", type := 3, offset := 6, embedded := false, tag := "", pkgPath := "", byteOffset := 48 }, { name := "Whole", type := 4, offset := 7, embedded := false, tag := "", pkgPath := "", byteOffset := 56 }], 8, 64, (.agg #[.int .u64 0, .int .i64 0, .int .i64 0, .int .i64 0, .int .i64 0, .int .i64 0, .int .i64 0, .bool false])⟩ := by kernel_rfl
theorem ty33 : E.ty 33 = some ⟨.struct #[{ name := "Number", type := 30, offset := 0, embedded := false, tag := "", pkgPath := "", byteOffset := 0 }, { name := "Bytes", type := 3, offset := 1, embedded := false, tag := "", pkgPath := "", byteOffset := 8 }, { name := "Erased", type := 3, offset := 2, embedded := false, tag := "", pkgPath := "", byteOffset := 16 }, { name := "Chunks", type := 3, offset := 3, embedded := false, tag := "", pkgPath := "", byteOffset := 24 }, { name := "Empty", type := 3, offset := 4, embedded := false, tag := "", pkgPath := "", byteOffset := 32 }, { name := "Found", type := 3, offset := 5, embedded := false, tag := "", pkgPath := "", byteOffset := 40 }, { name := "Good", type := 3, offset := 6, embedded := false, tag := "", pkgPath := "", byteOffset := 48 }, { name := "Whole", type := 4, offset := 7, embedded := false, tag := "", pkgPath := "", byteOffset := 56 }], 8, 64, (.agg #[.int .u64 0, .int .i64 0, .int .i64 0, .int .i64 0, .int .i64 0, .int .i64 0, .int .i64 0, .bool false])⟩ := by kernel_rfl
theorem ty34 : E.ty 34 = some ⟨.slice 3, 1, 24, (.slice none 0 0)⟩ := by kernel_rfl
theorem ty35 : E.ty 35 = some ⟨.int .i64, 1, 8, (.int .i64 0)⟩ := by kernel_rfl
theorem ty37 : E.ty 37 = some ⟨.func #[23, 41] #[3, 35] false, 1, 8, .nilFunc⟩ := by kernel_rfl
theorem ty38 : E.ty 38 = some ⟨.func #[] #[23] false, 1, 8, .nilFunc⟩ := by kernel_rfl
theorem ty39 : E.ty 39 = some ⟨.pointer 83, 1, 8, (.pointer none)⟩ := by kernel_rfl
theorem ty40 : E.ty 40 = some ⟨.func #[39] #[22] false, 1, 8, .nilFunc⟩ := by kernel_rfl
theorem ty41 : E.ty 41 = some ⟨.func #[39] #[] false, 1, 8, .nilFunc⟩ := by kernel_rfl
theorem ty42 : E.ty 42 = some ⟨.func #[29] #[9] false, 1, 8, .nilFunc⟩ := by kernel_rfl
theorem ty43 : E.ty 43 = some ⟨.func #[22, 29] #[4] false, 1, 8, .nilFunc⟩ := by kernel_rfl
theorem ty44 : E.ty 44 = some ⟨.struct #[{ name := "S", type := 9, offset := 0, embedded := false, tag := "", pkgPath := "", byteOffset := 0 }, { name := "At", type := 3, offset := 1, embedded := false, tag := "", pkgPath := "", byteOffset := 16 }, { name := "E", type := 3, offset := 2, embedded := false, tag := "", pkgPath := "", byteOffset := 24 }], 3, 32, (.agg #[.string ⟨#[]⟩, .int .i64 0, .int .i64 0])⟩ := by kernel_rfl
theorem ty45 : E.ty 45 = some ⟨.struct #[{ name := "S", type := 9, offset := 0, embedded := false, tag := "", pkgPath := "", byteOffset := 0 }, { name := "At", type := 3, offset := 1, embedded := false, tag := "", pkgPath := "", byteOffset := 16 }, { name := "E", type := 3, offset := 2, embedded := false, tag := "", pkgPath := "", byteOffset := 24 }], 3, 32, (.agg #[.string ⟨#[]⟩, .int .i64 0, .int .i64 0])⟩ := by kernel_rfl
theorem ty47 : E.ty 47 = some ⟨.func #[45] #[45, 29] false, 1, 8, .nilFunc⟩ := by kernel_rfl
theorem ty48 : E.ty 48 = some ⟨.func #[22, 23] #[4] false, 1, 8, .nilFunc⟩ := by kernel_rfl
theorem ty49 : E.ty 49 = some ⟨.slice 55, 1, 24, (.slice none 0 0)⟩ := by kernel_rfl
theorem ty50 : E.ty 50 = some ⟨.func #[49] #[4] false, 1, 8, .nilFunc⟩ := by kernel_rfl
theorem ty51 : E.ty 51 = some ⟨.slice 57, 1, 24, (.slice none 0 0)⟩ := by kernel_rfl
theorem ty52 : E.ty 52 = some ⟨.int .i64, 1, 8, (.int .i64 0)⟩ := by kernel_rfl
theorem ty53 : E.ty 53 = some ⟨.slice 106, 1, 24, (.slice none 0 0)⟩ := by kernel_rfl
theorem ty54 : E.ty 54 = some ⟨.struct #[{ name := "Kind", type := 5, offset := 0, embedded := false, tag := "", pkgPath := "", byteOffset := 0 }, { name := "Key", type := 9, offset := 1, embedded := false, tag := "", pkgPath := "", byteOffset := 8 }, { name := "Value", type := 9, offset := 2, embedded := false, tag := "", pkgPath := "", byteOffset := 24 }, { name := "Seq", type := 30, offset := 3, embedded := false, tag := "", pkgPath := "", byteOffset := 40 }, { name := "What", type := 52, offset := 4, embedded := false, tag := "", pkgPath := "", byteOffset := 48 }, { name := "E", type := 35, offset := 5, embedded := false, tag := "", pkgPath := "", byteOffset := 56 }, { name := "Records", type := 53, offset := 6, embedded := false, tag := "", pkgPath := "", byteOffset := 64 }], 7, 88, (.agg #[.int .u8 0, .string ⟨#[]⟩, .string ⟨#[]⟩, .int .u64 0, .int .i64 0, .int .i64 0, .slice none 0 0])⟩ := by kernel_rfl
theorem ty55 : E.ty 55 = some ⟨.struct #[{ name := "Kind", type := 5, offset := 0, embedded := false, tag := "", pkgPath := "", byteOffset := 0 }, { name := "Key", type := 9, offset := 1, embedded := false, tag := "", pkgPath := "", byteOffset := 8 }, { name := "Value", type := 9, offset := 2, embedded := false, tag := "", pkgPath := "", byteOffset := 24 }, { name := "Seq", type := 30, offset := 3, embedded := false, tag := "", pkgPath := "", byteOffset := 40 }, { name := "What", type := 52, offset := 4, embedded := false, tag := "", pkgPath := "", byteOffset := 48 }, { name := "E", type := 35, offset := 5, embedded := false, tag := "", pkgPath := "", byteOffset := 56 }, { name := "Records", type := 53, offset := 6, embedded := false, tag := "", pkgPath := "", byteOffset := 64 }], 7, 88, (.agg #[.int .u8 0, .string ⟨#[]⟩, .string ⟨#[]⟩, .int .u64 0, .int .i64 0, .int .i64 0, .slice none 0 0])⟩ := by kernel_rfl
theorem ty56 : E.ty 56 = some ⟨.struct #[{ name := "Kind", type := 5, offset := 0, embedded := false, tag := "", pkgPath := "", byteOffset := 0 }, { name := "Key", type := 9, offset := 1, embedded := false, tag := "", pkgPath := "", byteOffset := 8 }, { name := "Value", type := 9, offset := 2, embedded := false, tag := "", pkgPath := "", byteOffset := 24 }, { name := "Seq", type := 30, offset := 3, embedded := false, tag := "", pkgPath := "", byteOffset := 40 }, { name := "What", type := 3, offset := 4, embedded := false, tag := "", pkgPath := "", byteOffset := 48 }, { name := "E", type := 3, offset := 5, embedded := false, tag := "", pkgPath := "", byteOffset := 56 }, { name := "Records", type := 53, offset := 6, embedded := false, tag := "", pkgPath := "", byteOffset := 64 }], 7, 88, (.agg #[.int .u8 0, .string ⟨#[]⟩, .string ⟨#[]⟩, .int .u64 0, .int .i64 0, .int .i64 0, .slice none 0 0])⟩ := by kernel_rfl
theorem ty57 : E.ty 57 = some ⟨.struct #[{ name := "Kind", type := 5, offset := 0, embedded := false, tag := "", pkgPath := "", byteOffset := 0 }, { name := "Key", type := 9, offset := 1, embedded := false, tag := "", pkgPath := "", byteOffset := 8 }, { name := "Value", type := 9, offset := 2, embedded := false, tag := "", pkgPath := "", byteOffset := 24 }, { name := "Seq", type := 30, offset := 3, embedded := false, tag := "", pkgPath := "", byteOffset := 40 }, { name := "What", type := 3, offset := 4, embedded := false, tag := "", pkgPath := "", byteOffset := 48 }, { name := "E", type := 3, offset := 5, embedded := false, tag := "", pkgPath := "", byteOffset := 56 }, { name := "Records", type := 53, offset := 6, embedded := false, tag := "", pkgPath := "", byteOffset := 64 }], 7, 88, (.agg #[.int .u8 0, .string ⟨#[]⟩, .string ⟨#[]⟩, .int .u64 0, .int .i64 0, .int .i64 0, .slice none 0 0])⟩ := by kernel_rfl
theorem ty58 : E.ty 58 = some ⟨.func #[55] #[57] false, 1, 8, .nilFunc⟩ := by kernel_rfl
theorem ty59 : E.ty 59 = some ⟨.slice 65, 1, 24, (.slice none 0 0)⟩ := by kernel_rfl
theorem ty60 : E.ty 60 = some ⟨.func #[49] #[59] false, 1, 8, .nilFunc⟩ := by kernel_rfl
theorem ty61 : E.ty 61 = some ⟨.slice 64, 1, 24, (.slice none 0 0)⟩ := by kernel_rfl
theorem ty62 : E.ty 62 = some ⟨.func #[51] #[61] false, 1, 8, .nilFunc⟩ := by kernel_rfl
theorem ty63 : E.ty 63 = some ⟨.struct #[{ name := "Kind", type := 5, offset := 0, embedded := false, tag := "", pkgPath := "", byteOffset := 0 }, { name := "At", type := 3, offset := 1, embedded := false, tag := "", pkgPath := "", byteOffset := 8 }], 2, 16, (.agg #[.int .u8 0, .int .i64 0])⟩ := by kernel_rfl
theorem ty64 : E.ty 64 = some ⟨.struct #[{ name := "Kind", type := 5, offset := 0, embedded := false, tag := "", pkgPath := "", byteOffset := 0 }, { name := "At", type := 3, offset := 1, embedded := false, tag := "", pkgPath := "", byteOffset := 8 }], 2, 16, (.agg #[.int .u8 0, .int .i64 0])⟩ := by kernel_rfl
theorem ty65 : E.ty 65 = some ⟨.struct #[{ name := "Kind", type := 5, offset := 0, embedded := false, tag := "", pkgPath := "", byteOffset := 0 }, { name := "At", type := 3, offset := 1, embedded := false, tag := "", pkgPath := "", byteOffset := 8 }], 2, 16, (.agg #[.int .u8 0, .int .i64 0])⟩ := by kernel_rfl
theorem ty67 : E.ty 67 = some ⟨.func #[51] #[53, 3] false, 1, 8, .nilFunc⟩ := by kernel_rfl
theorem ty68 : E.ty 68 = some ⟨.func #[53, 53] #[4] false, 1, 8, .nilFunc⟩ := by kernel_rfl
theorem ty69 : E.ty 69 = some ⟨.func #[49] #[53] false, 1, 8, .nilFunc⟩ := by kernel_rfl
theorem ty70 : E.ty 70 = some ⟨.func #[49] #[3] false, 1, 8, .nilFunc⟩ := by kernel_rfl
theorem ty72 : E.ty 72 = some ⟨.func #[75, 23] #[22, 35] false, 1, 8, .nilFunc⟩ := by kernel_rfl
theorem ty73 : E.ty 73 = some ⟨.int .u32, 1, 4, (.int .u32 0)⟩ := by kernel_rfl
theorem ty74 : E.ty 74 = some ⟨.struct #[{ name := "Exp", type := 5, offset := 0, embedded := false, tag := "", pkgPath := "", byteOffset := 0 }, { name := "Segments", type := 73, offset := 1, embedded := false, tag := "", pkgPath := "", byteOffset := 4 }], 2, 8, (.agg #[.int .u8 0, .int .u32 0])⟩ := by kernel_rfl
theorem ty75 : E.ty 75 = some ⟨.struct #[{ name := "Exp", type := 5, offset := 0, embedded := false, tag := "", pkgPath := "", byteOffset := 0 }, { name := "Segments", type := 73, offset := 1, embedded := false, tag := "", pkgPath := "", byteOffset := 4 }], 2, 8, (.agg #[.int .u8 0, .int .u32 0])⟩ := by kernel_rfl
theorem ty76 : E.ty 76 = some ⟨.float .f64, 1, 8, (.float .f64 0)⟩ := by kernel_rfl
theorem ty77 : E.ty 77 = some ⟨.func #[32] #[76] false, 1, 8, .nilFunc⟩ := by kernel_rfl
theorem ty78 : E.ty 78 = some ⟨.func #[28, 30] #[] false, 1, 8, .nilFunc⟩ := by kernel_rfl
theorem ty79 : E.ty 79 = some ⟨.func #[5] #[28] false, 1, 8, .nilFunc⟩ := by kernel_rfl
theorem ty80 : E.ty 80 = some ⟨.func #[28, 76] #[] false, 1, 8, .nilFunc⟩ := by kernel_rfl
theorem ty81 : E.ty 81 = some ⟨.func #[23] #[23] false, 1, 8, .nilFunc⟩ := by kernel_rfl
theorem ty82 : E.ty 82 = some ⟨.struct #[{ name := "b", type := 23, offset := 0, embedded := false, tag := "", pkgPath := "fascicle/cursor", byteOffset := 0 }, { name := "at", type := 3, offset := 1, embedded := false, tag := "", pkgPath := "fascicle/cursor", byteOffset := 24 }, { name := "live", type := 4, offset := 2, embedded := false, tag := "", pkgPath := "fascicle/cursor", byteOffset := 32 }], 3, 40, (.agg #[.slice none 0 0, .int .i64 0, .bool false])⟩ := by kernel_rfl
theorem ty83 : E.ty 83 = some ⟨.struct #[{ name := "b", type := 23, offset := 0, embedded := false, tag := "", pkgPath := "fascicle/cursor", byteOffset := 0 }, { name := "at", type := 3, offset := 1, embedded := false, tag := "", pkgPath := "fascicle/cursor", byteOffset := 24 }, { name := "live", type := 4, offset := 2, embedded := false, tag := "", pkgPath := "fascicle/cursor", byteOffset := 32 }], 3, 40, (.agg #[.slice none 0 0, .int .i64 0, .bool false])⟩ := by kernel_rfl
theorem ty84 : E.ty 84 = some ⟨.struct #[{ name := "c", type := 39, offset := 0, embedded := false, tag := "", pkgPath := "fascicle/cursor", byteOffset := 0 }, { name := "e", type := 35, offset := 1, embedded := false, tag := "", pkgPath := "fascicle/cursor", byteOffset := 8 }], 2, 16, (.agg #[.pointer none, .int .i64 0])⟩ := by kernel_rfl
theorem ty85 : E.ty 85 = some ⟨.struct #[{ name := "c", type := 39, offset := 0, embedded := false, tag := "", pkgPath := "fascicle/cursor", byteOffset := 0 }, { name := "e", type := 35, offset := 1, embedded := false, tag := "", pkgPath := "fascicle/cursor", byteOffset := 8 }], 2, 16, (.agg #[.pointer none, .int .i64 0])⟩ := by kernel_rfl
theorem ty86 : E.ty 86 = some ⟨.func #[39, 30] #[30] false, 1, 8, .nilFunc⟩ := by kernel_rfl
theorem ty87 : E.ty 87 = some ⟨.pointer 3, 1, 8, (.pointer none)⟩ := by kernel_rfl
theorem ty88 : E.ty 88 = some ⟨.slice 87, 1, 24, (.slice none 0 0)⟩ := by kernel_rfl
theorem ty89 : E.ty 89 = some ⟨.func #[] #[5] false, 1, 8, .nilFunc⟩ := by kernel_rfl
theorem ty90 : E.ty 90 = some ⟨.func #[35] #[] false, 1, 8, .nilFunc⟩ := by kernel_rfl
theorem ty91 : E.ty 91 = some ⟨.func #[76, 76] #[4] false, 1, 8, .nilFunc⟩ := by kernel_rfl
theorem ty92 : E.ty 92 = some ⟨.func #[39] #[76] false, 1, 8, .nilFunc⟩ := by kernel_rfl
theorem ty93 : E.ty 93 = some ⟨.func #[] #[3] false, 1, 8, .nilFunc⟩ := by kernel_rfl
theorem ty94 : E.ty 94 = some ⟨.func #[30] #[9] false, 1, 8, .nilFunc⟩ := by kernel_rfl
theorem ty95 : E.ty 95 = some ⟨.func #[30, 3] #[9] false, 1, 8, .nilFunc⟩ := by kernel_rfl
theorem ty96 : E.ty 96 = some ⟨.func #[76] #[30] false, 1, 8, .nilFunc⟩ := by kernel_rfl
theorem ty97 : E.ty 97 = some ⟨.func #[33] #[76] false, 1, 8, .nilFunc⟩ := by kernel_rfl
theorem ty99 : E.ty 99 = some ⟨.func #[45, 30] #[45, 30] false, 1, 8, .nilFunc⟩ := by kernel_rfl
theorem ty100 : E.ty 100 = some ⟨.array 6 30, 6, 48, (.agg #[.int .u64 0, .int .u64 0, .int .u64 0, .int .u64 0, .int .u64 0, .int .u64 0])⟩ := by kernel_rfl
theorem ty101 : E.ty 101 = some ⟨.func #[45, 3] #[45, 30] false, 1, 8, .nilFunc⟩ := by kernel_rfl
theorem ty102 : E.ty 102 = some ⟨.func #[45, 3] #[45] false, 1, 8, .nilFunc⟩ := by kernel_rfl
theorem ty104 : E.ty 104 = some ⟨.func #[45] #[45, 76] false, 1, 8, .nilFunc⟩ := by kernel_rfl
theorem ty105 : E.ty 105 = some ⟨.struct #[{ name := "Delete", type := 4, offset := 0, embedded := false, tag := "", pkgPath := "", byteOffset := 0 }, { name := "Seq", type := 30, offset := 1, embedded := false, tag := "", pkgPath := "", byteOffset := 8 }, { name := "Key", type := 9, offset := 2, embedded := false, tag := "", pkgPath := "", byteOffset := 16 }, { name := "Value", type := 9, offset := 3, embedded := false, tag := "", pkgPath := "", byteOffset := 32 }], 4, 48, (.agg #[.bool false, .int .u64 0, .string ⟨#[]⟩, .string ⟨#[]⟩])⟩ := by kernel_rfl
theorem ty106 : E.ty 106 = some ⟨.struct #[{ name := "Delete", type := 4, offset := 0, embedded := false, tag := "", pkgPath := "", byteOffset := 0 }, { name := "Seq", type := 30, offset := 1, embedded := false, tag := "", pkgPath := "", byteOffset := 8 }, { name := "Key", type := 9, offset := 2, embedded := false, tag := "", pkgPath := "", byteOffset := 16 }, { name := "Value", type := 9, offset := 3, embedded := false, tag := "", pkgPath := "", byteOffset := 32 }], 4, 48, (.agg #[.bool false, .int .u64 0, .string ⟨#[]⟩, .string ⟨#[]⟩])⟩ := by kernel_rfl
theorem ty107 : E.ty 107 = some ⟨.struct #[{ name := "row", type := 53, offset := 0, embedded := false, tag := "", pkgPath := "fascicle/history", byteOffset := 0 }, { name := "sure", type := 3, offset := 1, embedded := false, tag := "", pkgPath := "fascicle/history", byteOffset := 24 }, { name := "cut", type := 4, offset := 2, embedded := false, tag := "", pkgPath := "fascicle/history", byteOffset := 32 }, { name := "torn", type := 4, offset := 3, embedded := false, tag := "", pkgPath := "fascicle/history", byteOffset := 33 }], 4, 40, (.agg #[.slice none 0 0, .int .i64 0, .bool false, .bool false])⟩ := by kernel_rfl
theorem ty108 : E.ty 108 = some ⟨.struct #[{ name := "row", type := 53, offset := 0, embedded := false, tag := "", pkgPath := "fascicle/history", byteOffset := 0 }, { name := "sure", type := 3, offset := 1, embedded := false, tag := "", pkgPath := "fascicle/history", byteOffset := 24 }, { name := "cut", type := 4, offset := 2, embedded := false, tag := "", pkgPath := "fascicle/history", byteOffset := 32 }, { name := "torn", type := 4, offset := 3, embedded := false, tag := "", pkgPath := "fascicle/history", byteOffset := 33 }], 4, 40, (.agg #[.slice none 0 0, .int .i64 0, .bool false, .bool false])⟩ := by kernel_rfl
theorem ty110 : E.ty 110 = some ⟨.func #[55] #[5, 4] false, 1, 8, .nilFunc⟩ := by kernel_rfl
theorem ty111 : E.ty 111 = some ⟨.func #[51, 57] #[3] false, 1, 8, .nilFunc⟩ := by kernel_rfl
theorem ty112 : E.ty 112 = some ⟨.func #[51] #[3] false, 1, 8, .nilFunc⟩ := by kernel_rfl
theorem ty113 : E.ty 113 = some ⟨.func #[53] #[53] false, 1, 8, .nilFunc⟩ := by kernel_rfl
theorem ty114 : E.ty 114 = some ⟨.func #[49] #[108] false, 1, 8, .nilFunc⟩ := by kernel_rfl
theorem ty115 : E.ty 115 = some ⟨.func #[75] #[35] false, 1, 8, .nilFunc⟩ := by kernel_rfl
theorem ty116 : E.ty 116 = some ⟨.func #[75] #[3] false, 1, 8, .nilFunc⟩ := by kernel_rfl
theorem ty117 : E.ty 117 = some ⟨.func #[75, 30, 23] #[32] false, 1, 8, .nilFunc⟩ := by kernel_rfl
theorem ty118 : E.ty 118 = some ⟨.slice 122, 1, 24, (.slice none 0 0)⟩ := by kernel_rfl
theorem ty119 : E.ty 119 = some ⟨.func #[3, 23] #[118] false, 1, 8, .nilFunc⟩ := by kernel_rfl
theorem ty120 : E.ty 120 = some ⟨.func #[106] #[9] false, 1, 8, .nilFunc⟩ := by kernel_rfl
theorem ty121 : E.ty 121 = some ⟨.struct #[{ name := "Record", type := 106, offset := 0, embedded := false, tag := "", pkgPath := "", byteOffset := 0 }, { name := "Segment", type := 30, offset := 4, embedded := false, tag := "", pkgPath := "", byteOffset := 48 }, { name := "At", type := 3, offset := 5, embedded := false, tag := "", pkgPath := "", byteOffset := 56 }, { name := "Len", type := 3, offset := 6, embedded := false, tag := "", pkgPath := "", byteOffset := 64 }], 7, 72, (.agg #[.bool false, .int .u64 0, .string ⟨#[]⟩, .string ⟨#[]⟩, .int .u64 0, .int .i64 0, .int .i64 0])⟩ := by kernel_rfl
theorem ty122 : E.ty 122 = some ⟨.struct #[{ name := "Record", type := 106, offset := 0, embedded := false, tag := "", pkgPath := "", byteOffset := 0 }, { name := "Segment", type := 30, offset := 4, embedded := false, tag := "", pkgPath := "", byteOffset := 48 }, { name := "At", type := 3, offset := 5, embedded := false, tag := "", pkgPath := "", byteOffset := 56 }, { name := "Len", type := 3, offset := 6, embedded := false, tag := "", pkgPath := "", byteOffset := 64 }], 7, 72, (.agg #[.bool false, .int .u64 0, .string ⟨#[]⟩, .string ⟨#[]⟩, .int .u64 0, .int .i64 0, .int .i64 0])⟩ := by kernel_rfl
theorem ty123 : E.ty 123 = some ⟨.func #[3, 3, 3] #[76] false, 1, 8, .nilFunc⟩ := by kernel_rfl
theorem ty124 : E.ty 124 = some ⟨.int .u64, 1, 8, (.int .u64 0)⟩ := by kernel_rfl
theorem ty125 : E.ty 125 = some ⟨.func #[30, 3] #[28] false, 1, 8, .nilFunc⟩ := by kernel_rfl
theorem ty126 : E.ty 126 = some ⟨.func #[30] #[28] false, 1, 8, .nilFunc⟩ := by kernel_rfl
theorem ty127 : E.ty 127 = some ⟨.func #[39] #[30] false, 1, 8, .nilFunc⟩ := by kernel_rfl
theorem ty128 : E.ty 128 = some ⟨.func #[3] #[30] false, 1, 8, .nilFunc⟩ := by kernel_rfl
theorem ty129 : E.ty 129 = some ⟨.func #[] #[30] false, 1, 8, .nilFunc⟩ := by kernel_rfl
theorem ty130 : E.ty 130 = some ⟨.func #[30] #[76] false, 1, 8, .nilFunc⟩ := by kernel_rfl
theorem ty131 : E.ty 131 = some ⟨.func #[76] #[4] false, 1, 8, .nilFunc⟩ := by kernel_rfl
theorem ty132 : E.ty 132 = some ⟨.func #[76, 76, 76] #[76] false, 1, 8, .nilFunc⟩ := by kernel_rfl
theorem ty133 : E.ty 133 = some ⟨.func #[30, 30] #[76] false, 1, 8, .nilFunc⟩ := by kernel_rfl
theorem ty134 : E.ty 134 = some ⟨.func #[45] #[45, 30] false, 1, 8, .nilFunc⟩ := by kernel_rfl
theorem ty136 : E.ty 136 = some ⟨.func #[45, 3] #[45, 9] false, 1, 8, .nilFunc⟩ := by kernel_rfl
theorem ty137 : E.ty 137 = some ⟨.func #[9] #[30] false, 1, 8, .nilFunc⟩ := by kernel_rfl
theorem ty138 : E.ty 138 = some ⟨.slice 166, 1, 24, (.slice none 0 0)⟩ := by kernel_rfl
theorem ty140 : E.ty 140 = some ⟨.func #[23] #[75, 138] false, 1, 8, .nilFunc⟩ := by kernel_rfl
theorem ty141 : E.ty 141 = some ⟨.pointer 108, 1, 8, (.pointer none)⟩ := by kernel_rfl
theorem ty142 : E.ty 142 = some ⟨.func #[53] #[5, 4] false, 1, 8, .nilFunc⟩ := by kernel_rfl
theorem ty143 : E.ty 143 = some ⟨.func #[51, 5] #[4] false, 1, 8, .nilFunc⟩ := by kernel_rfl
theorem ty145 : E.ty 145 = some ⟨.func #[53, 9] #[3, 9] false, 1, 8, .nilFunc⟩ := by kernel_rfl
theorem ty146 : E.ty 146 = some ⟨.slice 149, 1, 24, (.slice none 0 0)⟩ := by kernel_rfl
theorem ty147 : E.ty 147 = some ⟨.func #[3, 23] #[146] false, 1, 8, .nilFunc⟩ := by kernel_rfl
theorem ty148 : E.ty 148 = some ⟨.struct #[{ name := "Segment", type := 30, offset := 0, embedded := false, tag := "", pkgPath := "", byteOffset := 0 }, { name := "From", type := 3, offset := 1, embedded := false, tag := "", pkgPath := "", byteOffset := 8 }, { name := "To", type := 3, offset := 2, embedded := false, tag := "", pkgPath := "", byteOffset := 16 }], 3, 24, (.agg #[.int .u64 0, .int .i64 0, .int .i64 0])⟩ := by kernel_rfl
theorem ty149 : E.ty 149 = some ⟨.struct #[{ name := "Segment", type := 30, offset := 0, embedded := false, tag := "", pkgPath := "", byteOffset := 0 }, { name := "From", type := 3, offset := 1, embedded := false, tag := "", pkgPath := "", byteOffset := 8 }, { name := "To", type := 3, offset := 2, embedded := false, tag := "", pkgPath := "", byteOffset := 16 }], 3, 24, (.agg #[.int .u64 0, .int .i64 0, .int .i64 0])⟩ := by kernel_rfl
theorem ty150 : E.ty 150 = some ⟨.slice 73, 1, 24, (.slice none 0 0)⟩ := by kernel_rfl
theorem ty151 : E.ty 151 = some ⟨.struct #[{ name := "Records", type := 53, offset := 0, embedded := false, tag := "", pkgPath := "", byteOffset := 0 }, { name := "At", type := 150, offset := 1, embedded := false, tag := "", pkgPath := "", byteOffset := 24 }, { name := "Used", type := 73, offset := 2, embedded := false, tag := "", pkgPath := "", byteOffset := 48 }, { name := "Sealed", type := 4, offset := 3, embedded := false, tag := "", pkgPath := "", byteOffset := 52 }], 4, 56, (.agg #[.slice none 0 0, .slice none 0 0, .int .u32 0, .bool false])⟩ := by kernel_rfl
theorem ty152 : E.ty 152 = some ⟨.struct #[{ name := "Records", type := 53, offset := 0, embedded := false, tag := "", pkgPath := "", byteOffset := 0 }, { name := "At", type := 150, offset := 1, embedded := false, tag := "", pkgPath := "", byteOffset := 24 }, { name := "Used", type := 73, offset := 2, embedded := false, tag := "", pkgPath := "", byteOffset := 48 }, { name := "Sealed", type := 4, offset := 3, embedded := false, tag := "", pkgPath := "", byteOffset := 52 }], 4, 56, (.agg #[.slice none 0 0, .slice none 0 0, .int .u32 0, .bool false])⟩ := by kernel_rfl
theorem ty154 : E.ty 154 = some ⟨.func #[75, 73, 23] #[152, 35] false, 1, 8, .nilFunc⟩ := by kernel_rfl
theorem ty155 : E.ty 155 = some ⟨.pointer 189, 1, 8, (.pointer none)⟩ := by kernel_rfl
theorem ty156 : E.ty 156 = some ⟨.func #[3] #[155] false, 1, 8, .nilFunc⟩ := by kernel_rfl
theorem ty157 : E.ty 157 = some ⟨.func #[23] #[118] false, 1, 8, .nilFunc⟩ := by kernel_rfl
theorem ty158 : E.ty 158 = some ⟨.func #[9] #[9] false, 1, 8, .nilFunc⟩ := by kernel_rfl
theorem ty160 : E.ty 160 = some ⟨.func #[75, 53] #[23, 35] false, 1, 8, .nilFunc⟩ := by kernel_rfl
theorem ty161 : E.ty 161 = some ⟨.func #[3] #[23] false, 1, 8, .nilFunc⟩ := by kernel_rfl
theorem ty162 : E.ty 162 = some ⟨.func #[76, 76] #[3] false, 1, 8, .nilFunc⟩ := by kernel_rfl
theorem ty163 : E.ty 163 = some ⟨.func #[3] #[76] false, 1, 8, .nilFunc⟩ := by kernel_rfl
theorem ty164 : E.ty 164 = some ⟨.func #[39, 3] #[30] false, 1, 8, .nilFunc⟩ := by kernel_rfl
theorem ty165 : E.ty 165 = some ⟨.struct #[{ name := "Kind", type := 5, offset := 0, embedded := false, tag := "", pkgPath := "", byteOffset := 0 }, { name := "Key", type := 9, offset := 1, embedded := false, tag := "", pkgPath := "", byteOffset := 8 }, { name := "Value", type := 9, offset := 2, embedded := false, tag := "", pkgPath := "", byteOffset := 24 }, { name := "Keep", type := 3, offset := 3, embedded := false, tag := "", pkgPath := "", byteOffset := 40 }, { name := "Mask", type := 30, offset := 4, embedded := false, tag := "", pkgPath := "", byteOffset := 48 }], 5, 56, (.agg #[.int .u8 0, .string ⟨#[]⟩, .string ⟨#[]⟩, .int .i64 0, .int .u64 0])⟩ := by kernel_rfl
theorem ty166 : E.ty 166 = some ⟨.struct #[{ name := "Kind", type := 5, offset := 0, embedded := false, tag := "", pkgPath := "", byteOffset := 0 }, { name := "Key", type := 9, offset := 1, embedded := false, tag := "", pkgPath := "", byteOffset := 8 }, { name := "Value", type := 9, offset := 2, embedded := false, tag := "", pkgPath := "", byteOffset := 24 }, { name := "Keep", type := 3, offset := 3, embedded := false, tag := "", pkgPath := "", byteOffset := 40 }, { name := "Mask", type := 30, offset := 4, embedded := false, tag := "", pkgPath := "", byteOffset := 48 }], 5, 56, (.agg #[.int .u8 0, .string ⟨#[]⟩, .string ⟨#[]⟩, .int .i64 0, .int .u64 0])⟩ := by kernel_rfl
theorem ty167 : E.ty 167 = some ⟨.func #[39] #[166] false, 1, 8, .nilFunc⟩ := by kernel_rfl
theorem ty168 : E.ty 168 = some ⟨.pointer 208, 1, 8, (.pointer none)⟩ := by kernel_rfl
theorem ty170 : E.ty 170 = some ⟨.func #[75] #[168, 35] false, 1, 8, .nilFunc⟩ := by kernel_rfl
theorem ty171 : E.ty 171 = some ⟨.func #[30, 23] #[35] false, 1, 8, .nilFunc⟩ := by kernel_rfl
theorem ty172 : E.ty 172 = some ⟨.func #[] #[35] false, 1, 8, .nilFunc⟩ := by kernel_rfl
theorem ty173 : E.ty 173 = some ⟨.func #[3] #[] false, 1, 8, .nilFunc⟩ := by kernel_rfl
theorem ty174 : E.ty 174 = some ⟨.func #[30, 3] #[23, 35] false, 1, 8, .nilFunc⟩ := by kernel_rfl
theorem ty175 : E.ty 175 = some ⟨.func #[53, 176] #[4] false, 1, 8, .nilFunc⟩ := by kernel_rfl
theorem ty176 : E.ty 176 = some ⟨.func #[106] #[4] false, 1, 8, .nilFunc⟩ := by kernel_rfl
theorem ty178 : E.ty 178 = some ⟨.func #[53, 9] #[52, 9] false, 1, 8, .nilFunc⟩ := by kernel_rfl
theorem ty179 : E.ty 179 = some ⟨.pointer 222, 1, 8, (.pointer none)⟩ := by kernel_rfl
theorem ty180 : E.ty 180 = some ⟨.func #[3] #[179] false, 1, 8, .nilFunc⟩ := by kernel_rfl
theorem ty181 : E.ty 181 = some ⟨.func #[23] #[146] false, 1, 8, .nilFunc⟩ := by kernel_rfl
theorem ty182 : E.ty 182 = some ⟨.func #[75, 73] #[23, 35] false, 1, 8, .nilFunc⟩ := by kernel_rfl
theorem ty183 : E.ty 183 = some ⟨.func #[23, 23] #[4] false, 1, 8, .nilFunc⟩ := by kernel_rfl
theorem ty184 : E.ty 184 = some ⟨.func #[23, 5] #[3] false, 1, 8, .nilFunc⟩ := by kernel_rfl
theorem ty186 : E.ty 186 = some ⟨.func #[23] #[106, 35] false, 1, 8, .nilFunc⟩ := by kernel_rfl
theorem ty187 : E.ty 187 = some ⟨.func #[23] #[4] false, 1, 8, .nilFunc⟩ := by kernel_rfl
theorem ty188 : E.ty 188 = some ⟨.struct #[{ name := "k", type := 179, offset := 0, embedded := false, tag := "", pkgPath := "fascicle/salvage", byteOffset := 0 }, { name := "held", type := 23, offset := 1, embedded := false, tag := "", pkgPath := "fascicle/salvage", byteOffset := 8 }, { name := "long", type := 4, offset := 2, embedded := false, tag := "", pkgPath := "fascicle/salvage", byteOffset := 32 }, { name := "chunks", type := 3, offset := 3, embedded := false, tag := "", pkgPath := "fascicle/salvage", byteOffset := 40 }, { name := "found", type := 3, offset := 4, embedded := false, tag := "", pkgPath := "fascicle/salvage", byteOffset := 48 }, { name := "empty", type := 3, offset := 5, embedded := false, tag := "", pkgPath := "fascicle/salvage", byteOffset := 56 }], 6, 64, (.agg #[.pointer none, .slice none 0 0, .bool false, .int .i64 0, .int .i64 0, .int .i64 0])⟩ := by kernel_rfl
theorem ty189 : E.ty 189 = some ⟨.struct #[{ name := "k", type := 179, offset := 0, embedded := false, tag := "", pkgPath := "fascicle/salvage", byteOffset := 0 }, { name := "held", type := 23, offset := 1, embedded := false, tag := "", pkgPath := "fascicle/salvage", byteOffset := 8 }, { name := "long", type := 4, offset := 2, embedded := false, tag := "", pkgPath := "fascicle/salvage", byteOffset := 32 }, { name := "chunks", type := 3, offset := 3, embedded := false, tag := "", pkgPath := "fascicle/salvage", byteOffset := 40 }, { name := "found", type := 3, offset := 4, embedded := false, tag := "", pkgPath := "fascicle/salvage", byteOffset := 48 }, { name := "empty", type := 3, offset := 5, embedded := false, tag := "", pkgPath := "fascicle/salvage", byteOffset := 56 }], 6, 64, (.agg #[.pointer none, .slice none 0 0, .bool false, .int .i64 0, .int .i64 0, .int .i64 0])⟩ := by kernel_rfl
theorem ty190 : E.ty 190 = some ⟨.func #[149, 118] #[118] false, 1, 8, .nilFunc⟩ := by kernel_rfl
theorem ty191 : E.ty 191 = some ⟨.func #[5] #[] false, 1, 8, .nilFunc⟩ := by kernel_rfl
theorem ty192 : E.ty 192 = some ⟨.func #[30, 9] #[30] false, 1, 8, .nilFunc⟩ := by kernel_rfl
theorem ty194 : E.ty 194 = some ⟨.func #[75, 53] #[150, 34, 35] false, 1, 8, .nilFunc⟩ := by kernel_rfl
theorem ty195 : E.ty 195 = some ⟨.pointer 246, 1, 8, (.pointer none)⟩ := by kernel_rfl
theorem ty196 : E.ty 196 = some ⟨.func #[] #[23, 35] false, 1, 8, .nilFunc⟩ := by kernel_rfl
theorem ty198 : E.ty 198 = some ⟨.func #[75, 73] #[195, 35] false, 1, 8, .nilFunc⟩ := by kernel_rfl
theorem ty200 : E.ty 200 = some ⟨.func #[106] #[73, 35] false, 1, 8, .nilFunc⟩ := by kernel_rfl
theorem ty201 : E.ty 201 = some ⟨.func #[76] #[3] false, 1, 8, .nilFunc⟩ := by kernel_rfl
theorem ty202 : E.ty 202 = some ⟨.func #[39, 3] #[23] false, 1, 8, .nilFunc⟩ := by kernel_rfl
theorem ty203 : E.ty 203 = some ⟨.func #[39] #[9] false, 1, 8, .nilFunc⟩ := by kernel_rfl
theorem ty204 : E.ty 204 = some ⟨.func #[9, 3] #[9] false, 1, 8, .nilFunc⟩ := by kernel_rfl
theorem ty205 : E.ty 205 = some ⟨.map 30 23, 1, 8, (.map none)⟩ := by kernel_rfl
theorem ty206 : E.ty 206 = some ⟨.slice 215, 1, 24, (.slice none 0 0)⟩ := by kernel_rfl
theorem ty207 : E.ty 207 = some ⟨.struct #[{ name := "c", type := 75, offset := 0, embedded := false, tag := "", pkgPath := "fascicle/flash", byteOffset := 0 }, { name := "seen", type := 205, offset := 2, embedded := false, tag := "", pkgPath := "fascicle/flash", byteOffset := 8 }, { name := "waiting", type := 206, offset := 3, embedded := false, tag := "", pkgPath := "fascicle/flash", byteOffset := 16 }, { name := "down", type := 4, offset := 4, embedded := false, tag := "", pkgPath := "fascicle/flash", byteOffset := 40 }], 5, 48, (.agg #[.int .u8 0, .int .u32 0, .map none, .slice none 0 0, .bool false])⟩ := by kernel_rfl
theorem ty208 : E.ty 208 = some ⟨.struct #[{ name := "c", type := 75, offset := 0, embedded := false, tag := "", pkgPath := "fascicle/flash", byteOffset := 0 }, { name := "seen", type := 205, offset := 2, embedded := false, tag := "", pkgPath := "fascicle/flash", byteOffset := 8 }, { name := "waiting", type := 206, offset := 3, embedded := false, tag := "", pkgPath := "fascicle/flash", byteOffset := 16 }, { name := "down", type := 4, offset := 4, embedded := false, tag := "", pkgPath := "fascicle/flash", byteOffset := 40 }], 5, 48, (.agg #[.int .u8 0, .int .u32 0, .map none, .slice none 0 0, .bool false])⟩ := by kernel_rfl
theorem ty209 : E.ty 209 = some ⟨.func #[30, 3] #[35] false, 1, 8, .nilFunc⟩ := by kernel_rfl
theorem ty210 : E.ty 210 = some ⟨.func #[23, 212] #[4] false, 1, 8, .nilFunc⟩ := by kernel_rfl
theorem ty211 : E.ty 211 = some ⟨.func #[30, 3] #[23] false, 1, 8, .nilFunc⟩ := by kernel_rfl
theorem ty212 : E.ty 212 = some ⟨.func #[5] #[4] false, 1, 8, .nilFunc⟩ := by kernel_rfl
theorem ty213 : E.ty 213 = some ⟨.func #[30, 23] #[] false, 1, 8, .nilFunc⟩ := by kernel_rfl
theorem ty214 : E.ty 214 = some ⟨.struct #[{ name := "at", type := 30, offset := 0, embedded := false, tag := "", pkgPath := "fascicle/flash", byteOffset := 0 }, { name := "n", type := 3, offset := 1, embedded := false, tag := "", pkgPath := "fascicle/flash", byteOffset := 8 }], 2, 16, (.agg #[.int .u64 0, .int .i64 0])⟩ := by kernel_rfl
theorem ty215 : E.ty 215 = some ⟨.struct #[{ name := "at", type := 30, offset := 0, embedded := false, tag := "", pkgPath := "fascicle/flash", byteOffset := 0 }, { name := "n", type := 3, offset := 1, embedded := false, tag := "", pkgPath := "fascicle/flash", byteOffset := 8 }], 2, 16, (.agg #[.int .u64 0, .int .i64 0])⟩ := by kernel_rfl
theorem ty216 : E.ty 216 = some ⟨.func #[30, 3] #[] false, 1, 8, .nilFunc⟩ := by kernel_rfl
theorem ty217 : E.ty 217 = some ⟨.func #[53, 176] #[3] false, 1, 8, .nilFunc⟩ := by kernel_rfl
theorem ty218 : E.ty 218 = some ⟨.func #[53, 106] #[3] false, 1, 8, .nilFunc⟩ := by kernel_rfl
theorem ty220 : E.ty 220 = some ⟨.func #[53, 9] #[106, 4] false, 1, 8, .nilFunc⟩ := by kernel_rfl
theorem ty221 : E.ty 221 = some ⟨.struct #[{ name := "size", type := 3, offset := 0, embedded := false, tag := "", pkgPath := "fascicle/chunk", byteOffset := 0 }, { name := "segment", type := 30, offset := 1, embedded := false, tag := "", pkgPath := "fascicle/chunk", byteOffset := 8 }, { name := "at", type := 3, offset := 2, embedded := false, tag := "", pkgPath := "fascicle/chunk", byteOffset := 16 }, { name := "from", type := 3, offset := 3, embedded := false, tag := "", pkgPath := "fascicle/chunk", byteOffset := 24 }], 4, 32, (.agg #[.int .i64 0, .int .u64 0, .int .i64 0, .int .i64 0])⟩ := by kernel_rfl
theorem ty222 : E.ty 222 = some ⟨.struct #[{ name := "size", type := 3, offset := 0, embedded := false, tag := "", pkgPath := "fascicle/chunk", byteOffset := 0 }, { name := "segment", type := 30, offset := 1, embedded := false, tag := "", pkgPath := "fascicle/chunk", byteOffset := 8 }, { name := "at", type := 3, offset := 2, embedded := false, tag := "", pkgPath := "fascicle/chunk", byteOffset := 16 }, { name := "from", type := 3, offset := 3, embedded := false, tag := "", pkgPath := "fascicle/chunk", byteOffset := 24 }], 4, 32, (.agg #[.int .i64 0, .int .u64 0, .int .i64 0, .int .i64 0])⟩ := by kernel_rfl
theorem ty223 : E.ty 223 = some ⟨.func #[5, 146] #[146] false, 1, 8, .nilFunc⟩ := by kernel_rfl
theorem ty224 : E.ty 224 = some ⟨.func #[75, 73] #[35] false, 1, 8, .nilFunc⟩ := by kernel_rfl
theorem ty225 : E.ty 225 = some ⟨.func #[23] #[23, 35] false, 1, 8, .nilFunc⟩ := by kernel_rfl
theorem ty226 : E.ty 226 = some ⟨.slice 233, 1, 24, (.slice none 0 0)⟩ := by kernel_rfl
theorem ty227 : E.ty 227 = some ⟨.struct #[{ name := "Used", type := 73, offset := 0, embedded := false, tag := "", pkgPath := "", byteOffset := 0 }, { name := "Table", type := 226, offset := 1, embedded := false, tag := "", pkgPath := "", byteOffset := 8 }], 2, 32, (.agg #[.int .u32 0, .slice none 0 0])⟩ := by kernel_rfl
theorem ty228 : E.ty 228 = some ⟨.struct #[{ name := "Used", type := 73, offset := 0, embedded := false, tag := "", pkgPath := "", byteOffset := 0 }, { name := "Table", type := 226, offset := 1, embedded := false, tag := "", pkgPath := "", byteOffset := 8 }], 2, 32, (.agg #[.int .u32 0, .slice none 0 0])⟩ := by kernel_rfl
theorem ty230 : E.ty 230 = some ⟨.func #[23] #[228, 35] false, 1, 8, .nilFunc⟩ := by kernel_rfl
theorem ty231 : E.ty 231 = some ⟨.func #[226, 226] #[4] false, 1, 8, .nilFunc⟩ := by kernel_rfl
theorem ty232 : E.ty 232 = some ⟨.struct #[{ name := "Hash", type := 30, offset := 0, embedded := false, tag := "", pkgPath := "", byteOffset := 0 }, { name := "At", type := 73, offset := 1, embedded := false, tag := "", pkgPath := "", byteOffset := 8 }], 2, 16, (.agg #[.int .u64 0, .int .u32 0])⟩ := by kernel_rfl
theorem ty233 : E.ty 233 = some ⟨.struct #[{ name := "Hash", type := 30, offset := 0, embedded := false, tag := "", pkgPath := "", byteOffset := 0 }, { name := "At", type := 73, offset := 1, embedded := false, tag := "", pkgPath := "", byteOffset := 8 }], 2, 16, (.agg #[.int .u64 0, .int .u32 0])⟩ := by kernel_rfl
theorem ty234 : E.ty 234 = some ⟨.func #[] #[226] false, 1, 8, .nilFunc⟩ := by kernel_rfl
theorem ty236 : E.ty 236 = some ⟨.func #[30, 9] #[30, 9] false, 1, 8, .nilFunc⟩ := by kernel_rfl
theorem ty237 : E.ty 237 = some ⟨.func #[30, 30] #[30] false, 1, 8, .nilFunc⟩ := by kernel_rfl
theorem ty238 : E.ty 238 = some ⟨.func #[30, 3] #[30] false, 1, 8, .nilFunc⟩ := by kernel_rfl
theorem ty239 : E.ty 239 = some ⟨.func #[53] #[35] false, 1, 8, .nilFunc⟩ := by kernel_rfl
theorem ty240 : E.ty 240 = some ⟨.func #[106] #[23, 35] false, 1, 8, .nilFunc⟩ := by kernel_rfl
theorem ty242 : E.ty 242 = some ⟨.func #[75, 34] #[150, 35] false, 1, 8, .nilFunc⟩ := by kernel_rfl
theorem ty243 : E.ty 243 = some ⟨.struct #[{ name := "Config", type := 75, offset := 0, embedded := false, tag := "", pkgPath := "", byteOffset := 0 }, { name := "Number", type := 73, offset := 2, embedded := false, tag := "", pkgPath := "", byteOffset := 8 }, { name := "Used", type := 3, offset := 3, embedded := false, tag := "", pkgPath := "", byteOffset := 16 }, { name := "Count", type := 3, offset := 4, embedded := false, tag := "", pkgPath := "", byteOffset := 24 }], 5, 32, (.agg #[.int .u8 0, .int .u32 0, .int .u32 0, .int .i64 0, .int .i64 0])⟩ := by kernel_rfl
theorem ty244 : E.ty 244 = some ⟨.struct #[{ name := "Config", type := 75, offset := 0, embedded := false, tag := "", pkgPath := "", byteOffset := 0 }, { name := "Number", type := 73, offset := 2, embedded := false, tag := "", pkgPath := "", byteOffset := 8 }, { name := "Used", type := 3, offset := 3, embedded := false, tag := "", pkgPath := "", byteOffset := 16 }, { name := "Count", type := 3, offset := 4, embedded := false, tag := "", pkgPath := "", byteOffset := 24 }], 5, 32, (.agg #[.int .u8 0, .int .u32 0, .int .u32 0, .int .i64 0, .int .i64 0])⟩ := by kernel_rfl
theorem ty245 : E.ty 245 = some ⟨.struct #[{ name := "room", type := 244, offset := 0, embedded := false, tag := "", pkgPath := "fascicle/segment", byteOffset := 0 }, { name := "frames", type := 23, offset := 5, embedded := false, tag := "", pkgPath := "fascicle/segment", byteOffset := 32 }, { name := "table", type := 226, offset := 6, embedded := false, tag := "", pkgPath := "fascicle/segment", byteOffset := 56 }], 7, 80, (.agg #[.int .u8 0, .int .u32 0, .int .u32 0, .int .i64 0, .int .i64 0, .slice none 0 0, .slice none 0 0])⟩ := by kernel_rfl
theorem ty246 : E.ty 246 = some ⟨.struct #[{ name := "room", type := 244, offset := 0, embedded := false, tag := "", pkgPath := "fascicle/segment", byteOffset := 0 }, { name := "frames", type := 23, offset := 5, embedded := false, tag := "", pkgPath := "fascicle/segment", byteOffset := 32 }, { name := "table", type := 226, offset := 6, embedded := false, tag := "", pkgPath := "fascicle/segment", byteOffset := 56 }], 7, 80, (.agg #[.int .u8 0, .int .u32 0, .int .u32 0, .int .i64 0, .int .i64 0, .slice none 0 0, .slice none 0 0])⟩ := by kernel_rfl
theorem ty247 : E.ty 247 = some ⟨.func #[228] #[23, 35] false, 1, 8, .nilFunc⟩ := by kernel_rfl
theorem ty248 : E.ty 248 = some ⟨.func #[226] #[226] false, 1, 8, .nilFunc⟩ := by kernel_rfl
theorem ty250 : E.ty 250 = some ⟨.func #[75, 73] #[244, 35] false, 1, 8, .nilFunc⟩ := by kernel_rfl
theorem ty251 : E.ty 251 = some ⟨.func #[106] #[35] false, 1, 8, .nilFunc⟩ := by kernel_rfl
theorem ty252 : E.ty 252 = some ⟨.func #[75, 3] #[4] false, 1, 8, .nilFunc⟩ := by kernel_rfl
theorem ty253 : E.ty 253 = some ⟨.func #[3] #[244, 35] false, 1, 8, .nilFunc⟩ := by kernel_rfl
theorem ty254 : E.ty 254 = some ⟨.func #[30, 30] #[3] false, 1, 8, .nilFunc⟩ := by kernel_rfl
theorem ty255 : E.ty 255 = some ⟨.func #[76, 3] #[4] false, 1, 8, .nilFunc⟩ := by kernel_rfl
theorem ty257 : E.ty 257 = some ⟨.func #[124, 124] #[124, 124] false, 1, 8, .nilFunc⟩ := by kernel_rfl
theorem ty258 : E.ty 258 = some ⟨.func #[9, 9] #[4] false, 1, 8, .nilFunc⟩ := by kernel_rfl
theorem ty259 : E.ty 259 = some ⟨.pointer 261, 1, 8, (.pointer none)⟩ := by kernel_rfl
theorem ty260 : E.ty 260 = some ⟨.struct #[{ name := "addr", type := 259, offset := 0, embedded := false, tag := "", pkgPath := "strings", byteOffset := 0 }, { name := "buf", type := 23, offset := 1, embedded := false, tag := "", pkgPath := "strings", byteOffset := 8 }], 2, 32, (.agg #[.pointer none, .slice none 0 0])⟩ := by kernel_rfl
theorem ty261 : E.ty 261 = some ⟨.struct #[{ name := "addr", type := 259, offset := 0, embedded := false, tag := "", pkgPath := "strings", byteOffset := 0 }, { name := "buf", type := 23, offset := 1, embedded := false, tag := "", pkgPath := "strings", byteOffset := 8 }], 2, 32, (.agg #[.pointer none, .slice none 0 0])⟩ := by kernel_rfl
theorem ty262 : E.ty 262 = some ⟨.interface #[("Error", 266)], 1, 16, .nilIface⟩ := by kernel_rfl
theorem ty263 : E.ty 263 = some ⟨.interface #[("Error", 266)], 1, 16, .nilIface⟩ := by kernel_rfl
theorem ty265 : E.ty 265 = some ⟨.func #[9] #[3, 263] false, 1, 8, .nilFunc⟩ := by kernel_rfl
theorem ty266 : E.ty 266 = some ⟨.func #[] #[9] false, 1, 8, .nilFunc⟩ := by kernel_rfl
theorem ty267 : E.ty 267 = some ⟨.func #[23, 212] #[3] false, 1, 8, .nilFunc⟩ := by kernel_rfl
theorem ty268 : E.ty 268 = some ⟨.func #[30, 3, 271] #[] false, 1, 8, .nilFunc⟩ := by kernel_rfl
theorem ty270 : E.ty 270 = some ⟨.func #[23, 3] #[23] false, 1, 8, .nilFunc⟩ := by kernel_rfl
theorem ty271 : E.ty 271 = some ⟨.func #[30, 3, 3] #[] false, 1, 8, .nilFunc⟩ := by kernel_rfl
theorem ty272 : E.ty 272 = some ⟨.func #[300] #[] false, 1, 8, .nilFunc⟩ := by kernel_rfl
theorem ty273 : E.ty 273 = some ⟨.func #[300] #[] false, 1, 8, .nilFunc⟩ := by kernel_rfl
theorem ty274 : E.ty 274 = some ⟨.func #[53] #[273] false, 1, 8, .nilFunc⟩ := by kernel_rfl
theorem ty275 : E.ty 275 = some ⟨.func #[23] #[28] false, 1, 8, .nilFunc⟩ := by kernel_rfl
theorem ty276 : E.ty 276 = some ⟨.func #[30, 23] #[30] false, 1, 8, .nilFunc⟩ := by kernel_rfl
theorem ty277 : E.ty 277 = some ⟨.func #[39, 3, 3] #[9] false, 1, 8, .nilFunc⟩ := by kernel_rfl
theorem ty278 : E.ty 278 = some ⟨.slice 30, 1, 24, (.slice none 0 0)⟩ := by kernel_rfl
theorem ty279 : E.ty 279 = some ⟨.func #[] #[73] false, 1, 8, .nilFunc⟩ := by kernel_rfl
theorem ty280 : E.ty 280 = some ⟨.func #[39, 3] #[226] false, 1, 8, .nilFunc⟩ := by kernel_rfl
theorem ty281 : E.ty 281 = some ⟨.func #[39, 3] #[278] false, 1, 8, .nilFunc⟩ := by kernel_rfl
theorem ty282 : E.ty 282 = some ⟨.func #[3] #[3] false, 1, 8, .nilFunc⟩ := by kernel_rfl
theorem ty283 : E.ty 283 = some ⟨.func #[228] #[35] false, 1, 8, .nilFunc⟩ := by kernel_rfl
theorem ty284 : E.ty 284 = some ⟨.func #[278, 278] #[4] false, 1, 8, .nilFunc⟩ := by kernel_rfl
theorem ty285 : E.ty 285 = some ⟨.func #[226] #[278] false, 1, 8, .nilFunc⟩ := by kernel_rfl
theorem ty286 : E.ty 286 = some ⟨.array 4 30, 4, 32, (.agg #[.int .u64 0, .int .u64 0, .int .u64 0, .int .u64 0])⟩ := by kernel_rfl
theorem ty287 : E.ty 287 = some ⟨.func #[3] #[4] false, 1, 8, .nilFunc⟩ := by kernel_rfl
theorem ty288 : E.ty 288 = some ⟨.func #[73] #[28] false, 1, 8, .nilFunc⟩ := by kernel_rfl
theorem ty289 : E.ty 289 = some ⟨.func #[28, 226] #[] false, 1, 8, .nilFunc⟩ := by kernel_rfl
theorem ty290 : E.ty 290 = some ⟨.func #[28, 278] #[] false, 1, 8, .nilFunc⟩ := by kernel_rfl
theorem ty291 : E.ty 291 = some ⟨.func #[226, 292] #[] false, 1, 8, .nilFunc⟩ := by kernel_rfl
theorem ty292 : E.ty 292 = some ⟨.func #[233, 233] #[3] false, 1, 8, .nilFunc⟩ := by kernel_rfl
theorem ty293 : E.ty 293 = some ⟨.func #[30] #[4] false, 1, 8, .nilFunc⟩ := by kernel_rfl
theorem ty294 : E.ty 294 = some ⟨.func #[76] #[76] false, 1, 8, .nilFunc⟩ := by kernel_rfl
theorem ty296 : E.ty 296 = some ⟨.func #[73, 73] #[73, 73] false, 1, 8, .nilFunc⟩ := by kernel_rfl
theorem ty298 : E.ty 298 = some ⟨.func #[30, 30] #[30, 30] false, 1, 8, .nilFunc⟩ := by kernel_rfl
theorem ty299 : E.ty 299 = some ⟨.pointer 5, 1, 8, (.pointer none)⟩ := by kernel_rfl
theorem ty300 : E.ty 300 = some ⟨.func #[3, 106] #[4] false, 1, 8, .nilFunc⟩ := by kernel_rfl
theorem ty301 : E.ty 301 = some ⟨.pointer 319, 1, 8, (.pointer none)⟩ := by kernel_rfl
theorem ty302 : E.ty 302 = some ⟨.func #[30] #[301] false, 1, 8, .nilFunc⟩ := by kernel_rfl
theorem ty303 : E.ty 303 = some ⟨.func #[23] #[301] false, 1, 8, .nilFunc⟩ := by kernel_rfl
theorem ty304 : E.ty 304 = some ⟨.func #[226] #[4] false, 1, 8, .nilFunc⟩ := by kernel_rfl
theorem ty305 : E.ty 305 = some ⟨.func #[278] #[4] false, 1, 8, .nilFunc⟩ := by kernel_rfl
theorem ty306 : E.ty 306 = some ⟨.func #[233] #[4] false, 1, 8, .nilFunc⟩ := by kernel_rfl
theorem ty307 : E.ty 307 = some ⟨.func #[226, 306] #[4] false, 1, 8, .nilFunc⟩ := by kernel_rfl
theorem ty308 : E.ty 308 = some ⟨.func #[304] #[] false, 1, 8, .nilFunc⟩ := by kernel_rfl
theorem ty309 : E.ty 309 = some ⟨.func #[304] #[] false, 1, 8, .nilFunc⟩ := by kernel_rfl
theorem ty310 : E.ty 310 = some ⟨.func #[226, 3] #[309] false, 1, 8, .nilFunc⟩ := by kernel_rfl
theorem ty311 : E.ty 311 = some ⟨.func #[28, 9] #[] false, 1, 8, .nilFunc⟩ := by kernel_rfl
theorem ty312 : E.ty 312 = some ⟨.func #[226, 3, 3, 3, 292] #[] false, 1, 8, .nilFunc⟩ := by kernel_rfl
theorem ty313 : E.ty 313 = some ⟨.func #[124] #[3] false, 1, 8, .nilFunc⟩ := by kernel_rfl
theorem ty314 : E.ty 314 = some ⟨.func #[34] #[3] true, 1, 8, .nilFunc⟩ := by kernel_rfl
theorem ty315 : E.ty 315 = some ⟨.func #[73, 73] #[3] false, 1, 8, .nilFunc⟩ := by kernel_rfl
theorem ty316 : E.ty 316 = some ⟨.unsafePointer, 1, 8, (.pointer none)⟩ := by kernel_rfl
theorem ty317 : E.ty 317 = some ⟨.func #[316] #[316] false, 1, 8, .nilFunc⟩ := by kernel_rfl
theorem ty318 : E.ty 318 = some ⟨.struct #[{ name := "seed", type := 30, offset := 0, embedded := false, tag := "", pkgPath := "fascicle/wide", byteOffset := 0 }, { name := "v", type := 286, offset := 1, embedded := false, tag := "", pkgPath := "fascicle/wide", byteOffset := 8 }, { name := "rest", type := 23, offset := 5, embedded := false, tag := "", pkgPath := "fascicle/wide", byteOffset := 40 }, { name := "n", type := 30, offset := 6, embedded := false, tag := "", pkgPath := "fascicle/wide", byteOffset := 64 }], 7, 72, (.agg #[.int .u64 0, .int .u64 0, .int .u64 0, .int .u64 0, .int .u64 0, .slice none 0 0, .int .u64 0])⟩ := by kernel_rfl
theorem ty319 : E.ty 319 = some ⟨.struct #[{ name := "seed", type := 30, offset := 0, embedded := false, tag := "", pkgPath := "fascicle/wide", byteOffset := 0 }, { name := "v", type := 286, offset := 1, embedded := false, tag := "", pkgPath := "fascicle/wide", byteOffset := 8 }, { name := "rest", type := 23, offset := 5, embedded := false, tag := "", pkgPath := "fascicle/wide", byteOffset := 40 }, { name := "n", type := 30, offset := 6, embedded := false, tag := "", pkgPath := "fascicle/wide", byteOffset := 64 }], 7, 72, (.agg #[.int .u64 0, .int .u64 0, .int .u64 0, .int .u64 0, .int .u64 0, .slice none 0 0, .int .u64 0])⟩ := by kernel_rfl
theorem ty320 : E.ty 320 = some ⟨.func #[23, 3] #[30] false, 1, 8, .nilFunc⟩ := by kernel_rfl
theorem ty321 : E.ty 321 = some ⟨.func #[30, 30] #[4] false, 1, 8, .nilFunc⟩ := by kernel_rfl
theorem ty322 : E.ty 322 = some ⟨.func #[226, 306] #[3] false, 1, 8, .nilFunc⟩ := by kernel_rfl
theorem ty323 : E.ty 323 = some ⟨.func #[226, 3, 3, 292] #[] false, 1, 8, .nilFunc⟩ := by kernel_rfl
theorem ty324 : E.ty 324 = some ⟨.int .i64, 1, 8, (.int .i64 0)⟩ := by kernel_rfl
theorem ty326 : E.ty 326 = some ⟨.func #[226, 3, 3, 292] #[3, 324] false, 1, 8, .nilFunc⟩ := by kernel_rfl
theorem ty327 : E.ty 327 = some ⟨.func #[226, 3, 3, 292] #[4] false, 1, 8, .nilFunc⟩ := by kernel_rfl
theorem ty328 : E.ty 328 = some ⟨.func #[226, 3, 3, 3, 292] #[3] false, 1, 8, .nilFunc⟩ := by kernel_rfl
theorem ty330 : E.ty 330 = some ⟨.func #[226, 3, 3, 3, 292] #[3, 4] false, 1, 8, .nilFunc⟩ := by kernel_rfl
theorem ty331 : E.ty 331 = some ⟨.func #[73] #[3] false, 1, 8, .nilFunc⟩ := by kernel_rfl
theorem ty332 : E.ty 332 = some ⟨.func #[30] #[3] false, 1, 8, .nilFunc⟩ := by kernel_rfl
theorem ty333 : E.ty 333 = some ⟨.func #[73] #[4] false, 1, 8, .nilFunc⟩ := by kernel_rfl
theorem ty334 : E.ty 334 = some ⟨.int .u64, 1, 8, (.int .u64 0)⟩ := by kernel_rfl
theorem ty335 : E.ty 335 = some ⟨.func #[3] #[124] false, 1, 8, .nilFunc⟩ := by kernel_rfl
theorem ty336 : E.ty 336 = some ⟨.func #[226, 3, 87, 292] #[3] false, 1, 8, .nilFunc⟩ := by kernel_rfl
theorem ty337 : E.ty 337 = some ⟨.func #[226, 3, 3, 3, 87, 292] #[3] false, 1, 8, .nilFunc⟩ := by kernel_rfl
theorem ty338 : E.ty 338 = some ⟨.pointer 334, 1, 8, (.pointer none)⟩ := by kernel_rfl
theorem ty340 : E.ty 340 = some ⟨.func #[226, 3, 3, 87, 292] #[3, 3] false, 1, 8, .nilFunc⟩ := by kernel_rfl
theorem ty341 : E.ty 341 = some ⟨.struct #[{ name := "_interface", type := 17, offset := 0, embedded := false, tag := "", pkgPath := "runtime", byteOffset := 0 }, { name := "concrete", type := 17, offset := 1, embedded := false, tag := "", pkgPath := "runtime", byteOffset := 8 }, { name := "asserted", type := 17, offset := 2, embedded := false, tag := "", pkgPath := "runtime", byteOffset := 16 }, { name := "missingMethod", type := 9, offset := 3, embedded := false, tag := "", pkgPath := "runtime", byteOffset := 24 }], 4, 40, (.agg #[.pointer none, .pointer none, .pointer none, .string ⟨#[]⟩])⟩ := by kernel_rfl
theorem ty342 : E.ty 342 = some ⟨.struct #[{ name := "_interface", type := 17, offset := 0, embedded := false, tag := "", pkgPath := "runtime", byteOffset := 0 }, { name := "concrete", type := 17, offset := 1, embedded := false, tag := "", pkgPath := "runtime", byteOffset := 8 }, { name := "asserted", type := 17, offset := 2, embedded := false, tag := "", pkgPath := "runtime", byteOffset := 16 }, { name := "missingMethod", type := 9, offset := 3, embedded := false, tag := "", pkgPath := "runtime", byteOffset := 24 }], 4, 40, (.agg #[.pointer none, .pointer none, .pointer none, .string ⟨#[]⟩])⟩ := by kernel_rfl
theorem ty343 : E.ty 343 = some ⟨.array 0 16, 0, 0, (.agg #[])⟩ := by kernel_rfl
theorem ty344 : E.ty 344 = some ⟨.struct #[{ name := "_", type := 343, offset := 0, embedded := false, tag := "", pkgPath := "runtime", byteOffset := 0 }], 0, 0, (.agg #[])⟩ := by kernel_rfl
theorem ty345 : E.ty 345 = some ⟨.struct #[{ name := "_", type := 343, offset := 0, embedded := false, tag := "", pkgPath := "runtime", byteOffset := 0 }], 0, 0, (.agg #[])⟩ := by kernel_rfl
theorem ty346 : E.ty 346 = some ⟨.int .u8, 1, 1, (.int .u8 0)⟩ := by kernel_rfl
theorem ty347 : E.ty 347 = some ⟨.int .u8, 1, 1, (.int .u8 0)⟩ := by kernel_rfl
theorem ty348 : E.ty 348 = some ⟨.func #[316, 316] #[4] false, 1, 8, .nilFunc⟩ := by kernel_rfl
theorem ty349 : E.ty 349 = some ⟨.int .i32, 1, 4, (.int .i32 0)⟩ := by kernel_rfl
theorem ty350 : E.ty 350 = some ⟨.int .i32, 1, 4, (.int .i32 0)⟩ := by kernel_rfl
theorem ty351 : E.ty 351 = some ⟨.struct #[{ name := "Size_", type := 12, offset := 0, embedded := false, tag := "", pkgPath := "", byteOffset := 0 }, { name := "PtrBytes", type := 12, offset := 1, embedded := false, tag := "", pkgPath := "", byteOffset := 8 }, { name := "Hash", type := 73, offset := 2, embedded := false, tag := "", pkgPath := "", byteOffset := 16 }, { name := "TFlag", type := 346, offset := 3, embedded := false, tag := "", pkgPath := "", byteOffset := 20 }, { name := "Align_", type := 5, offset := 4, embedded := false, tag := "", pkgPath := "", byteOffset := 21 }, { name := "FieldAlign_", type := 5, offset := 5, embedded := false, tag := "", pkgPath := "", byteOffset := 22 }, { name := "Kind_", type := 347, offset := 6, embedded := false, tag := "", pkgPath := "", byteOffset := 23 }, { name := "Equal", type := 348, offset := 7, embedded := false, tag := "", pkgPath := "", byteOffset := 24 }, { name := "GCData", type := 299, offset := 8, embedded := false, tag := "", pkgPath := "", byteOffset := 32 }, { name := "Str", type := 349, offset := 9, embedded := false, tag := "", pkgPath := "", byteOffset := 40 }, { name := "PtrToThis", type := 350, offset := 10, embedded := false, tag := "", pkgPath := "", byteOffset := 44 }], 11, 48, (.agg #[.int .u64 0, .int .u64 0, .int .u32 0, .int .u8 0, .int .u8 0, .int .u8 0, .int .u8 0, .nilFunc, .pointer none, .int .i32 0, .int .i32 0])⟩ := by kernel_rfl
theorem ty352 : E.ty 352 = some ⟨.struct #[{ name := "Size_", type := 12, offset := 0, embedded := false, tag := "", pkgPath := "", byteOffset := 0 }, { name := "PtrBytes", type := 12, offset := 1, embedded := false, tag := "", pkgPath := "", byteOffset := 8 }, { name := "Hash", type := 73, offset := 2, embedded := false, tag := "", pkgPath := "", byteOffset := 16 }, { name := "TFlag", type := 346, offset := 3, embedded := false, tag := "", pkgPath := "", byteOffset := 20 }, { name := "Align_", type := 5, offset := 4, embedded := false, tag := "", pkgPath := "", byteOffset := 21 }, { name := "FieldAlign_", type := 5, offset := 5, embedded := false, tag := "", pkgPath := "", byteOffset := 22 }, { name := "Kind_", type := 347, offset := 6, embedded := false, tag := "", pkgPath := "", byteOffset := 23 }, { name := "Equal", type := 348, offset := 7, embedded := false, tag := "", pkgPath := "", byteOffset := 24 }, { name := "GCData", type := 299, offset := 8, embedded := false, tag := "", pkgPath := "", byteOffset := 32 }, { name := "Str", type := 349, offset := 9, embedded := false, tag := "", pkgPath := "", byteOffset := 40 }, { name := "PtrToThis", type := 350, offset := 10, embedded := false, tag := "", pkgPath := "", byteOffset := 44 }], 11, 48, (.agg #[.int .u64 0, .int .u64 0, .int .u32 0, .int .u8 0, .int .u8 0, .int .u8 0, .int .u8 0, .nilFunc, .pointer none, .int .i32 0, .int .i32 0])⟩ := by kernel_rfl

end Go.Am.Q
