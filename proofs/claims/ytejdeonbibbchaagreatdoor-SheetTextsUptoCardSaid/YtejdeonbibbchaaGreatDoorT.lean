/- What is known of the program's types: written by a program of this session's. -/
import Derived.Test.YtejdeonbibbchaaGreatDoorD15
import Derived.Test.YtejdeonbibbchaaGreatDoorProg
import Derived.KernelRfl
set_option linter.unusedVariables false
set_option linter.unusedSimpArgs false
set_option linter.constructorNameAsVariable false
namespace Go.Proofs.YtejdeonbibbchaaGreatDoor
open Go Go.Proofs.YtejdeonbibbchaaGreatDoor.DL
set_option maxRecDepth 100000
theorem ti1 : TyOk Tryz.prog 1 ⟨(Go.TypeDesc.func #[] #[] Bool.false), 1, 8, .nilFunc⟩ := ⟨Tryz.underlying1, by kernel_rfl⟩
theorem ti2 : TyOk Tryz.prog 2 ⟨(Go.TypeDesc.int Go.IntKind.i64), 1, 8, (.int .i64 0)⟩ := ⟨Tryz.underlying2, by kernel_rfl⟩
theorem ti3 : TyOk Tryz.prog 3 ⟨(Go.TypeDesc.int Go.IntKind.i64), 1, 8, (.int .i64 0)⟩ := ⟨Tryz.underlying3, by kernel_rfl⟩
theorem ti4 : TyOk Tryz.prog 4 ⟨Go.TypeDesc.bool, 1, 1, (.bool false)⟩ := ⟨Tryz.underlying4, by kernel_rfl⟩
theorem ti5 : TyOk Tryz.prog 5 ⟨(Go.TypeDesc.int Go.IntKind.u8), 1, 1, (.int .u8 0)⟩ := ⟨Tryz.underlying5, by kernel_rfl⟩
theorem ti6 : TyOk Tryz.prog 6 ⟨(Go.TypeDesc.int Go.IntKind.u8), 1, 1, (.int .u8 0)⟩ := ⟨Tryz.underlying6, by kernel_rfl⟩
theorem ti8 : TyOk Tryz.prog 8 ⟨(Go.TypeDesc.struct #[{ name := "x", type := 2, offset := 0, embedded := Bool.false, tag := "", pkgPath := "runtime", byteOffset := 0 }, { name := "y", type := 3, offset := 1, embedded := Bool.false, tag := "", pkgPath := "runtime", byteOffset := 8 }, { name := "signed", type := 4, offset := 2, embedded := Bool.false, tag := "", pkgPath := "runtime", byteOffset := 16 }, { name := "code", type := 6, offset := 3, embedded := Bool.false, tag := "", pkgPath := "runtime", byteOffset := 17 }]), 4, 24, (.agg #[(.int .i64 0), (.int .i64 0), (.bool false), (.int .u8 0)])⟩ := ⟨Tryz.underlying8, by kernel_rfl⟩
theorem ti9 : TyOk Tryz.prog 9 ⟨Go.TypeDesc.string, 1, 16, (.string ⟨#[]⟩)⟩ := ⟨Tryz.underlying9, by kernel_rfl⟩
theorem ti20 : TyOk Tryz.prog 20 ⟨(Go.TypeDesc.interface #[]), 1, 16, .nilIface⟩ := ⟨Tryz.underlying20, by kernel_rfl⟩
theorem ti22 : TyOk Tryz.prog 22 ⟨(Go.TypeDesc.slice 37), 1, 24, (.slice none 0 0)⟩ := ⟨Tryz.underlying22, by kernel_rfl⟩
theorem ti24 : TyOk Tryz.prog 24 ⟨(Go.TypeDesc.struct #[{ name := "Pages", type := 3, offset := 0, embedded := Bool.false, tag := "", pkgPath := "", byteOffset := 0 }, { name := "Width", type := 2, offset := 1, embedded := Bool.false, tag := "", pkgPath := "", byteOffset := 8 }, { name := "Height", type := 2, offset := 2, embedded := Bool.false, tag := "", pkgPath := "", byteOffset := 16 }, { name := "Boxes", type := 22, offset := 3, embedded := Bool.false, tag := "", pkgPath := "", byteOffset := 24 }]), 4, 48, (.agg #[(.int .i64 0), (.int .i64 0), (.int .i64 0), (.slice none 0 0)])⟩ := ⟨Tryz.underlying24, by kernel_rfl⟩
theorem ti26 : TyOk Tryz.prog 26 ⟨(Go.TypeDesc.int Go.IntKind.i64), 1, 8, (.int .i64 0)⟩ := ⟨Tryz.underlying26, by kernel_rfl⟩
theorem ti28 : TyOk Tryz.prog 28 ⟨(Go.TypeDesc.struct #[{ name := "Code", type := 26, offset := 0, embedded := Bool.false, tag := "", pkgPath := "", byteOffset := 0 }, { name := "At", type := 3, offset := 1, embedded := Bool.false, tag := "", pkgPath := "", byteOffset := 8 }]), 2, 16, (.agg #[(.int .i64 0), (.int .i64 0)])⟩ := ⟨Tryz.underlying28, by kernel_rfl⟩
theorem ti37 : TyOk Tryz.prog 37 ⟨(Go.TypeDesc.struct #[{ name := "Page", type := 3, offset := 0, embedded := Bool.false, tag := "", pkgPath := "", byteOffset := 0 }, { name := "Kind", type := 3, offset := 1, embedded := Bool.false, tag := "", pkgPath := "", byteOffset := 8 }, { name := "Side", type := 3, offset := 2, embedded := Bool.false, tag := "", pkgPath := "", byteOffset := 16 }, { name := "Word", type := 3, offset := 3, embedded := Bool.false, tag := "", pkgPath := "", byteOffset := 24 }, { name := "X", type := 2, offset := 4, embedded := Bool.false, tag := "", pkgPath := "", byteOffset := 32 }, { name := "Y", type := 2, offset := 5, embedded := Bool.false, tag := "", pkgPath := "", byteOffset := 40 }, { name := "W", type := 2, offset := 6, embedded := Bool.false, tag := "", pkgPath := "", byteOffset := 48 }, { name := "H", type := 2, offset := 7, embedded := Bool.false, tag := "", pkgPath := "", byteOffset := 56 }, { name := "Text", type := 9, offset := 8, embedded := Bool.false, tag := "", pkgPath := "", byteOffset := 64 }]), 9, 80, (.agg #[(.int .i64 0), (.int .i64 0), (.int .i64 0), (.int .i64 0), (.int .i64 0), (.int .i64 0), (.int .i64 0), (.int .i64 0), (.string ⟨#[]⟩)])⟩ := ⟨Tryz.underlying37, by kernel_rfl⟩
theorem ti40 : TyOk Tryz.prog 40 ⟨(Go.TypeDesc.slice 9), 1, 24, (.slice none 0 0)⟩ := ⟨Tryz.underlying40, by kernel_rfl⟩
theorem ti44 : TyOk Tryz.prog 44 ⟨(Go.TypeDesc.slice 2), 1, 24, (.slice none 0 0)⟩ := ⟨Tryz.underlying44, by kernel_rfl⟩
theorem ti56 : TyOk Tryz.prog 56 ⟨(Go.TypeDesc.pointer 59), 1, 8, (.pointer none)⟩ := ⟨Tryz.underlying56, by kernel_rfl⟩
theorem ti57 : TyOk Tryz.prog 57 ⟨(Go.TypeDesc.slice 5), 1, 24, (.slice none 0 0)⟩ := ⟨Tryz.underlying57, by kernel_rfl⟩
theorem ti59 : TyOk Tryz.prog 59 ⟨(Go.TypeDesc.struct #[{ name := "addr", type := 56, offset := 0, embedded := Bool.false, tag := "", pkgPath := "strings", byteOffset := 0 }, { name := "buf", type := 57, offset := 1, embedded := Bool.false, tag := "", pkgPath := "strings", byteOffset := 8 }]), 2, 32, (.agg #[(.pointer none), (.slice none 0 0)])⟩ := ⟨Tryz.underlying59, by kernel_rfl⟩
theorem ti61 : TyOk Tryz.prog 61 ⟨(Go.TypeDesc.interface #[("Error", 35)]), 1, 16, .nilIface⟩ := ⟨Tryz.underlying61, by kernel_rfl⟩
theorem ti71 : TyOk Tryz.prog 71 ⟨(Go.TypeDesc.func #[37, 37] #[3] Bool.false), 1, 8, .nilFunc⟩ := ⟨Tryz.underlying71, by kernel_rfl⟩
theorem ti79 : TyOk Tryz.prog 79 ⟨(Go.TypeDesc.pointer 5), 1, 8, (.pointer none)⟩ := ⟨Tryz.underlying79, by kernel_rfl⟩
theorem ti82 : TyOk Tryz.prog 82 ⟨(Go.TypeDesc.slice 3), 1, 24, (.slice none 0 0)⟩ := ⟨Tryz.underlying82, by kernel_rfl⟩
theorem ti93 : TyOk Tryz.prog 93 ⟨(Go.TypeDesc.int Go.IntKind.u64), 1, 8, (.int .u64 0)⟩ := ⟨Tryz.underlying93, by kernel_rfl⟩
theorem ti103 : TyOk Tryz.prog 103 ⟨(Go.TypeDesc.int Go.IntKind.u64), 1, 8, (.int .u64 0)⟩ := ⟨Tryz.underlying103, by kernel_rfl⟩
theorem ti120 : TyOk Tryz.prog 120 ⟨(Go.TypeDesc.array 20 93), 20, 160, (.agg #[(.int .u64 0), (.int .u64 0), (.int .u64 0), (.int .u64 0), (.int .u64 0), (.int .u64 0), (.int .u64 0), (.int .u64 0), (.int .u64 0), (.int .u64 0), (.int .u64 0), (.int .u64 0), (.int .u64 0), (.int .u64 0), (.int .u64 0), (.int .u64 0), (.int .u64 0), (.int .u64 0), (.int .u64 0), (.int .u64 0)])⟩ := ⟨Tryz.underlying120, by kernel_rfl⟩
theorem ti131 : TyOk Tryz.prog 131 ⟨(Go.TypeDesc.pointer 133), 1, 8, (.pointer none)⟩ := ⟨Tryz.underlying131, by kernel_rfl⟩
theorem ti133 : TyOk Tryz.prog 133 ⟨(Go.TypeDesc.struct #[{ name := "s", type := 9, offset := 0, embedded := Bool.false, tag := "", pkgPath := "errors", byteOffset := 0 }]), 1, 16, (.agg #[(.string ⟨#[]⟩)])⟩ := ⟨Tryz.underlying133, by kernel_rfl⟩
def tts : List (Nat × TyI) := [
(1, ⟨(Go.TypeDesc.func #[] #[] Bool.false), 1, 8, .nilFunc⟩),
(2, ⟨(Go.TypeDesc.int Go.IntKind.i64), 1, 8, (.int .i64 0)⟩),
(3, ⟨(Go.TypeDesc.int Go.IntKind.i64), 1, 8, (.int .i64 0)⟩),
(4, ⟨Go.TypeDesc.bool, 1, 1, (.bool false)⟩),
(5, ⟨(Go.TypeDesc.int Go.IntKind.u8), 1, 1, (.int .u8 0)⟩),
(6, ⟨(Go.TypeDesc.int Go.IntKind.u8), 1, 1, (.int .u8 0)⟩),
(8, ⟨(Go.TypeDesc.struct #[{ name := "x", type := 2, offset := 0, embedded := Bool.false, tag := "", pkgPath := "runtime", byteOffset := 0 }, { name := "y", type := 3, offset := 1, embedded := Bool.false, tag := "", pkgPath := "runtime", byteOffset := 8 }, { name := "signed", type := 4, offset := 2, embedded := Bool.false, tag := "", pkgPath := "runtime", byteOffset := 16 }, { name := "code", type := 6, offset := 3, embedded := Bool.false, tag := "", pkgPath := "runtime", byteOffset := 17 }]), 4, 24, (.agg #[(.int .i64 0), (.int .i64 0), (.bool false), (.int .u8 0)])⟩),
(9, ⟨Go.TypeDesc.string, 1, 16, (.string ⟨#[]⟩)⟩),
(20, ⟨(Go.TypeDesc.interface #[]), 1, 16, .nilIface⟩),
(22, ⟨(Go.TypeDesc.slice 37), 1, 24, (.slice none 0 0)⟩),
(24, ⟨(Go.TypeDesc.struct #[{ name := "Pages", type := 3, offset := 0, embedded := Bool.false, tag := "", pkgPath := "", byteOffset := 0 }, { name := "Width", type := 2, offset := 1, embedded := Bool.false, tag := "", pkgPath := "", byteOffset := 8 }, { name := "Height", type := 2, offset := 2, embedded := Bool.false, tag := "", pkgPath := "", byteOffset := 16 }, { name := "Boxes", type := 22, offset := 3, embedded := Bool.false, tag := "", pkgPath := "", byteOffset := 24 }]), 4, 48, (.agg #[(.int .i64 0), (.int .i64 0), (.int .i64 0), (.slice none 0 0)])⟩),
(26, ⟨(Go.TypeDesc.int Go.IntKind.i64), 1, 8, (.int .i64 0)⟩),
(28, ⟨(Go.TypeDesc.struct #[{ name := "Code", type := 26, offset := 0, embedded := Bool.false, tag := "", pkgPath := "", byteOffset := 0 }, { name := "At", type := 3, offset := 1, embedded := Bool.false, tag := "", pkgPath := "", byteOffset := 8 }]), 2, 16, (.agg #[(.int .i64 0), (.int .i64 0)])⟩),
(37, ⟨(Go.TypeDesc.struct #[{ name := "Page", type := 3, offset := 0, embedded := Bool.false, tag := "", pkgPath := "", byteOffset := 0 }, { name := "Kind", type := 3, offset := 1, embedded := Bool.false, tag := "", pkgPath := "", byteOffset := 8 }, { name := "Side", type := 3, offset := 2, embedded := Bool.false, tag := "", pkgPath := "", byteOffset := 16 }, { name := "Word", type := 3, offset := 3, embedded := Bool.false, tag := "", pkgPath := "", byteOffset := 24 }, { name := "X", type := 2, offset := 4, embedded := Bool.false, tag := "", pkgPath := "", byteOffset := 32 }, { name := "Y", type := 2, offset := 5, embedded := Bool.false, tag := "", pkgPath := "", byteOffset := 40 }, { name := "W", type := 2, offset := 6, embedded := Bool.false, tag := "", pkgPath := "", byteOffset := 48 }, { name := "H", type := 2, offset := 7, embedded := Bool.false, tag := "", pkgPath := "", byteOffset := 56 }, { name := "Text", type := 9, offset := 8, embedded := Bool.false, tag := "", pkgPath := "", byteOffset := 64 }]), 9, 80, (.agg #[(.int .i64 0), (.int .i64 0), (.int .i64 0), (.int .i64 0), (.int .i64 0), (.int .i64 0), (.int .i64 0), (.int .i64 0), (.string ⟨#[]⟩)])⟩),
(40, ⟨(Go.TypeDesc.slice 9), 1, 24, (.slice none 0 0)⟩),
(44, ⟨(Go.TypeDesc.slice 2), 1, 24, (.slice none 0 0)⟩),
(56, ⟨(Go.TypeDesc.pointer 59), 1, 8, (.pointer none)⟩),
(57, ⟨(Go.TypeDesc.slice 5), 1, 24, (.slice none 0 0)⟩),
(59, ⟨(Go.TypeDesc.struct #[{ name := "addr", type := 56, offset := 0, embedded := Bool.false, tag := "", pkgPath := "strings", byteOffset := 0 }, { name := "buf", type := 57, offset := 1, embedded := Bool.false, tag := "", pkgPath := "strings", byteOffset := 8 }]), 2, 32, (.agg #[(.pointer none), (.slice none 0 0)])⟩),
(61, ⟨(Go.TypeDesc.interface #[("Error", 35)]), 1, 16, .nilIface⟩),
(71, ⟨(Go.TypeDesc.func #[37, 37] #[3] Bool.false), 1, 8, .nilFunc⟩),
(79, ⟨(Go.TypeDesc.pointer 5), 1, 8, (.pointer none)⟩),
(82, ⟨(Go.TypeDesc.slice 3), 1, 24, (.slice none 0 0)⟩),
(93, ⟨(Go.TypeDesc.int Go.IntKind.u64), 1, 8, (.int .u64 0)⟩),
(103, ⟨(Go.TypeDesc.int Go.IntKind.u64), 1, 8, (.int .u64 0)⟩),
(120, ⟨(Go.TypeDesc.array 20 93), 20, 160, (.agg #[(.int .u64 0), (.int .u64 0), (.int .u64 0), (.int .u64 0), (.int .u64 0), (.int .u64 0), (.int .u64 0), (.int .u64 0), (.int .u64 0), (.int .u64 0), (.int .u64 0), (.int .u64 0), (.int .u64 0), (.int .u64 0), (.int .u64 0), (.int .u64 0), (.int .u64 0), (.int .u64 0), (.int .u64 0), (.int .u64 0)])⟩),
(131, ⟨(Go.TypeDesc.pointer 133), 1, 8, (.pointer none)⟩),
(133, ⟨(Go.TypeDesc.struct #[{ name := "s", type := 9, offset := 0, embedded := Bool.false, tag := "", pkgPath := "errors", byteOffset := 0 }]), 1, 16, (.agg #[(.string ⟨#[]⟩)])⟩)]
abbrev tt : TypeId → Option TyI := lkT tts
theorem tt_ok : TOk Tryz.prog tt := TOk.of tts (fun p hp => by
  simp only [tts, List.mem_cons, List.mem_nil_iff, or_false] at hp
  rcases hp with rfl | rfl | rfl | rfl | rfl | rfl | rfl | rfl | rfl | rfl | rfl | rfl | rfl | rfl | rfl | rfl | rfl | rfl | rfl | rfl | rfl | rfl | rfl | rfl | rfl | rfl | rfl | rfl
  · exact ti1
  · exact ti2
  · exact ti3
  · exact ti4
  · exact ti5
  · exact ti6
  · exact ti8
  · exact ti9
  · exact ti20
  · exact ti22
  · exact ti24
  · exact ti26
  · exact ti28
  · exact ti37
  · exact ti40
  · exact ti44
  · exact ti56
  · exact ti57
  · exact ti59
  · exact ti61
  · exact ti71
  · exact ti79
  · exact ti82
  · exact ti93
  · exact ti103
  · exact ti120
  · exact ti131
  · exact ti133
)
end Go.Proofs.YtejdeonbibbchaaGreatDoor
