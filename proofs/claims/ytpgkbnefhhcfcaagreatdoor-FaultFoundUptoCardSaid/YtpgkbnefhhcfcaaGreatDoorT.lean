/- What is known of the program's types: written by a program of this session's. -/
import Derived.Test.YtpgkbnefhhcfcaaGreatDoorD15
import Derived.Test.YtpgkbnefhhcfcaaGreatDoorProg
import Derived.KernelRfl
set_option linter.unusedVariables false
set_option linter.unusedSimpArgs false
set_option linter.constructorNameAsVariable false
namespace Go.Proofs.YtpgkbnefhhcfcaaGreatDoor
open Go Go.Proofs.YtpgkbnefhhcfcaaGreatDoor.DL
set_option maxRecDepth 100000
theorem ti1 : TyOk Tryz.prog 1 ⟨(Go.TypeDesc.func #[] #[] Bool.false), 1, 8, .nilFunc⟩ := ⟨Tryz.underlying1, by kernel_rfl⟩
theorem ti2 : TyOk Tryz.prog 2 ⟨(Go.TypeDesc.int Go.IntKind.i64), 1, 8, (.int .i64 0)⟩ := ⟨Tryz.underlying2, by kernel_rfl⟩
theorem ti3 : TyOk Tryz.prog 3 ⟨(Go.TypeDesc.int Go.IntKind.i64), 1, 8, (.int .i64 0)⟩ := ⟨Tryz.underlying3, by kernel_rfl⟩
theorem ti4 : TyOk Tryz.prog 4 ⟨Go.TypeDesc.bool, 1, 1, (.bool false)⟩ := ⟨Tryz.underlying4, by kernel_rfl⟩
theorem ti5 : TyOk Tryz.prog 5 ⟨(Go.TypeDesc.int Go.IntKind.u8), 1, 1, (.int .u8 0)⟩ := ⟨Tryz.underlying5, by kernel_rfl⟩
theorem ti9 : TyOk Tryz.prog 9 ⟨Go.TypeDesc.string, 1, 16, (.string ⟨#[]⟩)⟩ := ⟨Tryz.underlying9, by kernel_rfl⟩
theorem ti12 : TyOk Tryz.prog 12 ⟨(Go.TypeDesc.int Go.IntKind.u64), 1, 8, (.int .u64 0)⟩ := ⟨Tryz.underlying12, by kernel_rfl⟩
theorem ti17 : TyOk Tryz.prog 17 ⟨(Go.TypeDesc.pointer 174), 1, 8, (.pointer none)⟩ := ⟨Tryz.underlying17, by kernel_rfl⟩
theorem ti20 : TyOk Tryz.prog 20 ⟨(Go.TypeDesc.interface #[]), 1, 16, .nilIface⟩ := ⟨Tryz.underlying20, by kernel_rfl⟩
theorem ti22 : TyOk Tryz.prog 22 ⟨(Go.TypeDesc.int Go.IntKind.i64), 1, 8, (.int .i64 0)⟩ := ⟨Tryz.underlying22, by kernel_rfl⟩
theorem ti24 : TyOk Tryz.prog 24 ⟨(Go.TypeDesc.struct #[{ name := "Code", type := 22, offset := 0, embedded := Bool.false, tag := "", pkgPath := "", byteOffset := 0 }, { name := "At", type := 3, offset := 1, embedded := Bool.false, tag := "", pkgPath := "", byteOffset := 8 }]), 2, 16, (.agg #[(.int .i64 0), (.int .i64 0)])⟩ := ⟨Tryz.underlying24, by kernel_rfl⟩
theorem ti25 : TyOk Tryz.prog 25 ⟨(Go.TypeDesc.slice 9), 1, 24, (.slice none 0 0)⟩ := ⟨Tryz.underlying25, by kernel_rfl⟩
theorem ti33 : TyOk Tryz.prog 33 ⟨(Go.TypeDesc.slice 24), 1, 24, (.slice none 0 0)⟩ := ⟨Tryz.underlying33, by kernel_rfl⟩
theorem ti42 : TyOk Tryz.prog 42 ⟨(Go.TypeDesc.interface #[("Error", 51)]), 1, 16, .nilIface⟩ := ⟨Tryz.underlying42, by kernel_rfl⟩
theorem ti53 : TyOk Tryz.prog 53 ⟨(Go.TypeDesc.pointer 62), 1, 8, (.pointer none)⟩ := ⟨Tryz.underlying53, by kernel_rfl⟩
theorem ti55 : TyOk Tryz.prog 55 ⟨(Go.TypeDesc.pointer 53), 1, 8, (.pointer none)⟩ := ⟨Tryz.underlying55, by kernel_rfl⟩
theorem ti56 : TyOk Tryz.prog 56 ⟨(Go.TypeDesc.pointer 59), 1, 8, (.pointer none)⟩ := ⟨Tryz.underlying56, by kernel_rfl⟩
theorem ti57 : TyOk Tryz.prog 57 ⟨(Go.TypeDesc.pointer 56), 1, 8, (.pointer none)⟩ := ⟨Tryz.underlying57, by kernel_rfl⟩
theorem ti59 : TyOk Tryz.prog 59 ⟨(Go.TypeDesc.struct #[{ name := "name", type := 9, offset := 0, embedded := Bool.false, tag := "", pkgPath := "variorum/fault", byteOffset := 0 }, { name := "err", type := 42, offset := 1, embedded := Bool.false, tag := "", pkgPath := "variorum/fault", byteOffset := 16 }]), 2, 32, (.agg #[(.string ⟨#[]⟩), .nilIface])⟩ := ⟨Tryz.underlying59, by kernel_rfl⟩
theorem ti62 : TyOk Tryz.prog 62 ⟨(Go.TypeDesc.struct #[{ name := "Fault", type := 24, offset := 0, embedded := Bool.true, tag := "", pkgPath := "", byteOffset := 0 }]), 2, 16, (.agg #[(.int .i64 0), (.int .i64 0)])⟩ := ⟨Tryz.underlying62, by kernel_rfl⟩
theorem ti66 : TyOk Tryz.prog 66 ⟨(Go.TypeDesc.slice 42), 1, 24, (.slice none 0 0)⟩ := ⟨Tryz.underlying66, by kernel_rfl⟩
theorem ti67 : TyOk Tryz.prog 67 ⟨(Go.TypeDesc.pointer 69), 1, 8, (.pointer none)⟩ := ⟨Tryz.underlying67, by kernel_rfl⟩
theorem ti69 : TyOk Tryz.prog 69 ⟨(Go.TypeDesc.struct #[{ name := "errs", type := 66, offset := 0, embedded := Bool.false, tag := "", pkgPath := "errors", byteOffset := 0 }]), 1, 24, (.agg #[(.slice none 0 0)])⟩ := ⟨Tryz.underlying69, by kernel_rfl⟩
theorem ti71 : TyOk Tryz.prog 71 ⟨(Go.TypeDesc.int Go.IntKind.u64), 1, 8, (.int .u64 0)⟩ := ⟨Tryz.underlying71, by kernel_rfl⟩
theorem ti75 : TyOk Tryz.prog 75 ⟨(Go.TypeDesc.int Go.IntKind.u64), 1, 8, (.int .u64 0)⟩ := ⟨Tryz.underlying75, by kernel_rfl⟩
theorem ti77 : TyOk Tryz.prog 77 ⟨(Go.TypeDesc.struct #[{ name := "typ_", type := 17, offset := 0, embedded := Bool.false, tag := "", pkgPath := "internal/reflectlite", byteOffset := 0 }, { name := "ptr", type := 74, offset := 1, embedded := Bool.false, tag := "", pkgPath := "internal/reflectlite", byteOffset := 8 }, { name := "flag", type := 75, offset := 2, embedded := Bool.true, tag := "", pkgPath := "internal/reflectlite", byteOffset := 16 }]), 3, 24, (.agg #[(.pointer none), (.pointer none), (.int .u64 0)])⟩ := ⟨Tryz.underlying77, by kernel_rfl⟩
theorem ti80 : TyOk Tryz.prog 80 ⟨(Go.TypeDesc.interface #[("AssignableTo", 84), ("Comparable", 28), ("Elem", 81), ("Implements", 84), ("Kind", 83), ("Name", 51), ("PkgPath", 51), ("Size", 176), ("String", 51), ("internal/reflectlite.common", 168), ("internal/reflectlite.uncommon", 177)]), 1, 16, .nilIface⟩ := ⟨Tryz.underlying80, by kernel_rfl⟩
theorem ti82 : TyOk Tryz.prog 82 ⟨(Go.TypeDesc.int Go.IntKind.u8), 1, 1, (.int .u8 0)⟩ := ⟨Tryz.underlying82, by kernel_rfl⟩
theorem ti86 : TyOk Tryz.prog 86 ⟨(Go.TypeDesc.interface #[("Unwrap", 88)]), 1, 16, .nilIface⟩ := ⟨Tryz.underlying86, by kernel_rfl⟩
theorem ti106 : TyOk Tryz.prog 106 ⟨(Go.TypeDesc.pointer 102), 1, 8, (.pointer none)⟩ := ⟨Tryz.underlying106, by kernel_rfl⟩
theorem ti108 : TyOk Tryz.prog 108 ⟨(Go.TypeDesc.struct #[{ name := "Type", type := 17, offset := 0, embedded := Bool.true, tag := "", pkgPath := "", byteOffset := 0 }]), 1, 8, (.agg #[(.pointer none)])⟩ := ⟨Tryz.underlying108, by kernel_rfl⟩
theorem ti112 : TyOk Tryz.prog 112 ⟨(Go.TypeDesc.interface #[("As", 114)]), 1, 16, .nilIface⟩ := ⟨Tryz.underlying112, by kernel_rfl⟩
theorem ti115 : TyOk Tryz.prog 115 ⟨(Go.TypeDesc.interface #[("Unwrap", 116)]), 1, 16, .nilIface⟩ := ⟨Tryz.underlying115, by kernel_rfl⟩
theorem ti117 : TyOk Tryz.prog 117 ⟨(Go.TypeDesc.interface #[("Is", 119)]), 1, 16, .nilIface⟩ := ⟨Tryz.underlying117, by kernel_rfl⟩
theorem ti135 : TyOk Tryz.prog 135 ⟨(Go.TypeDesc.pointer 5), 1, 8, (.pointer none)⟩ := ⟨Tryz.underlying135, by kernel_rfl⟩
theorem ti136 : TyOk Tryz.prog 136 ⟨(Go.TypeDesc.pointer 138), 1, 8, (.pointer none)⟩ := ⟨Tryz.underlying136, by kernel_rfl⟩
theorem ti138 : TyOk Tryz.prog 138 ⟨(Go.TypeDesc.struct #[{ name := "s", type := 9, offset := 0, embedded := Bool.false, tag := "", pkgPath := "errors", byteOffset := 0 }]), 1, 16, (.agg #[(.string ⟨#[]⟩)])⟩ := ⟨Tryz.underlying138, by kernel_rfl⟩
theorem ti144 : TyOk Tryz.prog 144 ⟨(Go.TypeDesc.int Go.IntKind.u32), 1, 4, (.int .u32 0)⟩ := ⟨Tryz.underlying144, by kernel_rfl⟩
theorem ti155 : TyOk Tryz.prog 155 ⟨(Go.TypeDesc.array 20 71), 20, 160, (.agg #[(.int .u64 0), (.int .u64 0), (.int .u64 0), (.int .u64 0), (.int .u64 0), (.int .u64 0), (.int .u64 0), (.int .u64 0), (.int .u64 0), (.int .u64 0), (.int .u64 0), (.int .u64 0), (.int .u64 0), (.int .u64 0), (.int .u64 0), (.int .u64 0), (.int .u64 0), (.int .u64 0), (.int .u64 0), (.int .u64 0)])⟩ := ⟨Tryz.underlying155, by kernel_rfl⟩
theorem ti169 : TyOk Tryz.prog 169 ⟨(Go.TypeDesc.int Go.IntKind.u8), 1, 1, (.int .u8 0)⟩ := ⟨Tryz.underlying169, by kernel_rfl⟩
theorem ti170 : TyOk Tryz.prog 170 ⟨(Go.TypeDesc.func #[74, 74] #[4] Bool.false), 1, 8, .nilFunc⟩ := ⟨Tryz.underlying170, by kernel_rfl⟩
theorem ti171 : TyOk Tryz.prog 171 ⟨(Go.TypeDesc.int Go.IntKind.i32), 1, 4, (.int .i32 0)⟩ := ⟨Tryz.underlying171, by kernel_rfl⟩
theorem ti172 : TyOk Tryz.prog 172 ⟨(Go.TypeDesc.int Go.IntKind.i32), 1, 4, (.int .i32 0)⟩ := ⟨Tryz.underlying172, by kernel_rfl⟩
theorem ti174 : TyOk Tryz.prog 174 ⟨(Go.TypeDesc.struct #[{ name := "Size_", type := 12, offset := 0, embedded := Bool.false, tag := "", pkgPath := "", byteOffset := 0 }, { name := "PtrBytes", type := 12, offset := 1, embedded := Bool.false, tag := "", pkgPath := "", byteOffset := 8 }, { name := "Hash", type := 144, offset := 2, embedded := Bool.false, tag := "", pkgPath := "", byteOffset := 16 }, { name := "TFlag", type := 169, offset := 3, embedded := Bool.false, tag := "", pkgPath := "", byteOffset := 20 }, { name := "Align_", type := 5, offset := 4, embedded := Bool.false, tag := "", pkgPath := "", byteOffset := 21 }, { name := "FieldAlign_", type := 5, offset := 5, embedded := Bool.false, tag := "", pkgPath := "", byteOffset := 22 }, { name := "Kind_", type := 82, offset := 6, embedded := Bool.false, tag := "", pkgPath := "", byteOffset := 23 }, { name := "Equal", type := 170, offset := 7, embedded := Bool.false, tag := "", pkgPath := "", byteOffset := 24 }, { name := "GCData", type := 135, offset := 8, embedded := Bool.false, tag := "", pkgPath := "", byteOffset := 32 }, { name := "Str", type := 171, offset := 9, embedded := Bool.false, tag := "", pkgPath := "", byteOffset := 40 }, { name := "PtrToThis", type := 172, offset := 10, embedded := Bool.false, tag := "", pkgPath := "", byteOffset := 44 }]), 11, 48, (.agg #[(.int .u64 0), (.int .u64 0), (.int .u32 0), (.int .u8 0), (.int .u8 0), (.int .u8 0), (.int .u8 0), .nilFunc, (.pointer none), (.int .i32 0), (.int .i32 0)])⟩ := ⟨Tryz.underlying174, by kernel_rfl⟩
def tts : List (Nat × TyI) := [
(1, ⟨(Go.TypeDesc.func #[] #[] Bool.false), 1, 8, .nilFunc⟩),
(2, ⟨(Go.TypeDesc.int Go.IntKind.i64), 1, 8, (.int .i64 0)⟩),
(3, ⟨(Go.TypeDesc.int Go.IntKind.i64), 1, 8, (.int .i64 0)⟩),
(4, ⟨Go.TypeDesc.bool, 1, 1, (.bool false)⟩),
(5, ⟨(Go.TypeDesc.int Go.IntKind.u8), 1, 1, (.int .u8 0)⟩),
(9, ⟨Go.TypeDesc.string, 1, 16, (.string ⟨#[]⟩)⟩),
(12, ⟨(Go.TypeDesc.int Go.IntKind.u64), 1, 8, (.int .u64 0)⟩),
(17, ⟨(Go.TypeDesc.pointer 174), 1, 8, (.pointer none)⟩),
(20, ⟨(Go.TypeDesc.interface #[]), 1, 16, .nilIface⟩),
(22, ⟨(Go.TypeDesc.int Go.IntKind.i64), 1, 8, (.int .i64 0)⟩),
(24, ⟨(Go.TypeDesc.struct #[{ name := "Code", type := 22, offset := 0, embedded := Bool.false, tag := "", pkgPath := "", byteOffset := 0 }, { name := "At", type := 3, offset := 1, embedded := Bool.false, tag := "", pkgPath := "", byteOffset := 8 }]), 2, 16, (.agg #[(.int .i64 0), (.int .i64 0)])⟩),
(25, ⟨(Go.TypeDesc.slice 9), 1, 24, (.slice none 0 0)⟩),
(33, ⟨(Go.TypeDesc.slice 24), 1, 24, (.slice none 0 0)⟩),
(42, ⟨(Go.TypeDesc.interface #[("Error", 51)]), 1, 16, .nilIface⟩),
(53, ⟨(Go.TypeDesc.pointer 62), 1, 8, (.pointer none)⟩),
(55, ⟨(Go.TypeDesc.pointer 53), 1, 8, (.pointer none)⟩),
(56, ⟨(Go.TypeDesc.pointer 59), 1, 8, (.pointer none)⟩),
(57, ⟨(Go.TypeDesc.pointer 56), 1, 8, (.pointer none)⟩),
(59, ⟨(Go.TypeDesc.struct #[{ name := "name", type := 9, offset := 0, embedded := Bool.false, tag := "", pkgPath := "variorum/fault", byteOffset := 0 }, { name := "err", type := 42, offset := 1, embedded := Bool.false, tag := "", pkgPath := "variorum/fault", byteOffset := 16 }]), 2, 32, (.agg #[(.string ⟨#[]⟩), .nilIface])⟩),
(62, ⟨(Go.TypeDesc.struct #[{ name := "Fault", type := 24, offset := 0, embedded := Bool.true, tag := "", pkgPath := "", byteOffset := 0 }]), 2, 16, (.agg #[(.int .i64 0), (.int .i64 0)])⟩),
(66, ⟨(Go.TypeDesc.slice 42), 1, 24, (.slice none 0 0)⟩),
(67, ⟨(Go.TypeDesc.pointer 69), 1, 8, (.pointer none)⟩),
(69, ⟨(Go.TypeDesc.struct #[{ name := "errs", type := 66, offset := 0, embedded := Bool.false, tag := "", pkgPath := "errors", byteOffset := 0 }]), 1, 24, (.agg #[(.slice none 0 0)])⟩),
(71, ⟨(Go.TypeDesc.int Go.IntKind.u64), 1, 8, (.int .u64 0)⟩),
(75, ⟨(Go.TypeDesc.int Go.IntKind.u64), 1, 8, (.int .u64 0)⟩),
(77, ⟨(Go.TypeDesc.struct #[{ name := "typ_", type := 17, offset := 0, embedded := Bool.false, tag := "", pkgPath := "internal/reflectlite", byteOffset := 0 }, { name := "ptr", type := 74, offset := 1, embedded := Bool.false, tag := "", pkgPath := "internal/reflectlite", byteOffset := 8 }, { name := "flag", type := 75, offset := 2, embedded := Bool.true, tag := "", pkgPath := "internal/reflectlite", byteOffset := 16 }]), 3, 24, (.agg #[(.pointer none), (.pointer none), (.int .u64 0)])⟩),
(80, ⟨(Go.TypeDesc.interface #[("AssignableTo", 84), ("Comparable", 28), ("Elem", 81), ("Implements", 84), ("Kind", 83), ("Name", 51), ("PkgPath", 51), ("Size", 176), ("String", 51), ("internal/reflectlite.common", 168), ("internal/reflectlite.uncommon", 177)]), 1, 16, .nilIface⟩),
(82, ⟨(Go.TypeDesc.int Go.IntKind.u8), 1, 1, (.int .u8 0)⟩),
(86, ⟨(Go.TypeDesc.interface #[("Unwrap", 88)]), 1, 16, .nilIface⟩),
(106, ⟨(Go.TypeDesc.pointer 102), 1, 8, (.pointer none)⟩),
(108, ⟨(Go.TypeDesc.struct #[{ name := "Type", type := 17, offset := 0, embedded := Bool.true, tag := "", pkgPath := "", byteOffset := 0 }]), 1, 8, (.agg #[(.pointer none)])⟩),
(112, ⟨(Go.TypeDesc.interface #[("As", 114)]), 1, 16, .nilIface⟩),
(115, ⟨(Go.TypeDesc.interface #[("Unwrap", 116)]), 1, 16, .nilIface⟩),
(117, ⟨(Go.TypeDesc.interface #[("Is", 119)]), 1, 16, .nilIface⟩),
(135, ⟨(Go.TypeDesc.pointer 5), 1, 8, (.pointer none)⟩),
(136, ⟨(Go.TypeDesc.pointer 138), 1, 8, (.pointer none)⟩),
(138, ⟨(Go.TypeDesc.struct #[{ name := "s", type := 9, offset := 0, embedded := Bool.false, tag := "", pkgPath := "errors", byteOffset := 0 }]), 1, 16, (.agg #[(.string ⟨#[]⟩)])⟩),
(144, ⟨(Go.TypeDesc.int Go.IntKind.u32), 1, 4, (.int .u32 0)⟩),
(155, ⟨(Go.TypeDesc.array 20 71), 20, 160, (.agg #[(.int .u64 0), (.int .u64 0), (.int .u64 0), (.int .u64 0), (.int .u64 0), (.int .u64 0), (.int .u64 0), (.int .u64 0), (.int .u64 0), (.int .u64 0), (.int .u64 0), (.int .u64 0), (.int .u64 0), (.int .u64 0), (.int .u64 0), (.int .u64 0), (.int .u64 0), (.int .u64 0), (.int .u64 0), (.int .u64 0)])⟩),
(169, ⟨(Go.TypeDesc.int Go.IntKind.u8), 1, 1, (.int .u8 0)⟩),
(170, ⟨(Go.TypeDesc.func #[74, 74] #[4] Bool.false), 1, 8, .nilFunc⟩),
(171, ⟨(Go.TypeDesc.int Go.IntKind.i32), 1, 4, (.int .i32 0)⟩),
(172, ⟨(Go.TypeDesc.int Go.IntKind.i32), 1, 4, (.int .i32 0)⟩),
(174, ⟨(Go.TypeDesc.struct #[{ name := "Size_", type := 12, offset := 0, embedded := Bool.false, tag := "", pkgPath := "", byteOffset := 0 }, { name := "PtrBytes", type := 12, offset := 1, embedded := Bool.false, tag := "", pkgPath := "", byteOffset := 8 }, { name := "Hash", type := 144, offset := 2, embedded := Bool.false, tag := "", pkgPath := "", byteOffset := 16 }, { name := "TFlag", type := 169, offset := 3, embedded := Bool.false, tag := "", pkgPath := "", byteOffset := 20 }, { name := "Align_", type := 5, offset := 4, embedded := Bool.false, tag := "", pkgPath := "", byteOffset := 21 }, { name := "FieldAlign_", type := 5, offset := 5, embedded := Bool.false, tag := "", pkgPath := "", byteOffset := 22 }, { name := "Kind_", type := 82, offset := 6, embedded := Bool.false, tag := "", pkgPath := "", byteOffset := 23 }, { name := "Equal", type := 170, offset := 7, embedded := Bool.false, tag := "", pkgPath := "", byteOffset := 24 }, { name := "GCData", type := 135, offset := 8, embedded := Bool.false, tag := "", pkgPath := "", byteOffset := 32 }, { name := "Str", type := 171, offset := 9, embedded := Bool.false, tag := "", pkgPath := "", byteOffset := 40 }, { name := "PtrToThis", type := 172, offset := 10, embedded := Bool.false, tag := "", pkgPath := "", byteOffset := 44 }]), 11, 48, (.agg #[(.int .u64 0), (.int .u64 0), (.int .u32 0), (.int .u8 0), (.int .u8 0), (.int .u8 0), (.int .u8 0), .nilFunc, (.pointer none), (.int .i32 0), (.int .i32 0)])⟩)]
abbrev tt : TypeId → Option TyI := lkT tts
theorem tt_ok : TOk Tryz.prog tt := TOk.of tts (fun p hp => by
  simp only [tts, List.mem_cons, List.mem_nil_iff, or_false] at hp
  rcases hp with rfl | rfl | rfl | rfl | rfl | rfl | rfl | rfl | rfl | rfl | rfl | rfl | rfl | rfl | rfl | rfl | rfl | rfl | rfl | rfl | rfl | rfl | rfl | rfl | rfl | rfl | rfl | rfl | rfl | rfl | rfl | rfl | rfl | rfl | rfl | rfl | rfl | rfl | rfl | rfl | rfl | rfl | rfl | rfl
  · exact ti1
  · exact ti2
  · exact ti3
  · exact ti4
  · exact ti5
  · exact ti9
  · exact ti12
  · exact ti17
  · exact ti20
  · exact ti22
  · exact ti24
  · exact ti25
  · exact ti33
  · exact ti42
  · exact ti53
  · exact ti55
  · exact ti56
  · exact ti57
  · exact ti59
  · exact ti62
  · exact ti66
  · exact ti67
  · exact ti69
  · exact ti71
  · exact ti75
  · exact ti77
  · exact ti80
  · exact ti82
  · exact ti86
  · exact ti106
  · exact ti108
  · exact ti112
  · exact ti115
  · exact ti117
  · exact ti135
  · exact ti136
  · exact ti138
  · exact ti144
  · exact ti155
  · exact ti169
  · exact ti170
  · exact ti171
  · exact ti172
  · exact ti174
)
end Go.Proofs.YtpgkbnefhhcfcaaGreatDoor
