/- What is known of the program's types: written by a program of this session's. -/
import Derived.Test.YtejdeonbibbchaaDoorD15
import Derived.Test.YtejdeonbibbchaaDoorProg
import Derived.KernelRfl
namespace Go.Proofs.YtejdeonbibbchaaDoor
open Go Go.Proofs.YtejdeonbibbchaaDoor.DL
set_option linter.unusedVariables false
set_option linter.unusedSimpArgs false
set_option linter.constructorNameAsVariable false
set_option maxRecDepth 100000
theorem ti1 : TyOk Tryd.prog 1 ⟨(Go.TypeDesc.func #[] #[] Bool.false), 1, 8, .nilFunc⟩ := ⟨Tryd.underlying1, by kernel_rfl⟩
theorem ti2 : TyOk Tryd.prog 2 ⟨(Go.TypeDesc.int Go.IntKind.i64), 1, 8, (.int .i64 0)⟩ := ⟨Tryd.underlying2, by kernel_rfl⟩
theorem ti3 : TyOk Tryd.prog 3 ⟨(Go.TypeDesc.int Go.IntKind.i64), 1, 8, (.int .i64 0)⟩ := ⟨Tryd.underlying3, by kernel_rfl⟩
theorem ti4 : TyOk Tryd.prog 4 ⟨Go.TypeDesc.bool, 1, 1, (.bool false)⟩ := ⟨Tryd.underlying4, by kernel_rfl⟩
theorem ti5 : TyOk Tryd.prog 5 ⟨(Go.TypeDesc.int Go.IntKind.u8), 1, 1, (.int .u8 0)⟩ := ⟨Tryd.underlying5, by kernel_rfl⟩
theorem ti6 : TyOk Tryd.prog 6 ⟨(Go.TypeDesc.int Go.IntKind.u8), 1, 1, (.int .u8 0)⟩ := ⟨Tryd.underlying6, by kernel_rfl⟩
theorem ti8 : TyOk Tryd.prog 8 ⟨(Go.TypeDesc.struct #[{ name := "x", type := 2, offset := 0, embedded := Bool.false, tag := "", pkgPath := "runtime", byteOffset := 0 }, { name := "y", type := 3, offset := 1, embedded := Bool.false, tag := "", pkgPath := "runtime", byteOffset := 8 }, { name := "signed", type := 4, offset := 2, embedded := Bool.false, tag := "", pkgPath := "runtime", byteOffset := 16 }, { name := "code", type := 6, offset := 3, embedded := Bool.false, tag := "", pkgPath := "runtime", byteOffset := 17 }]), 4, 24, (.agg #[(.int .i64 0), (.int .i64 0), (.bool false), (.int .u8 0)])⟩ := ⟨Tryd.underlying8, by kernel_rfl⟩
theorem ti9 : TyOk Tryd.prog 9 ⟨Go.TypeDesc.string, 1, 16, (.string ⟨#[]⟩)⟩ := ⟨Tryd.underlying9, by kernel_rfl⟩
theorem ti20 : TyOk Tryd.prog 20 ⟨(Go.TypeDesc.interface #[]), 1, 16, .nilIface⟩ := ⟨Tryd.underlying20, by kernel_rfl⟩
theorem ti22 : TyOk Tryd.prog 22 ⟨(Go.TypeDesc.slice 37), 1, 24, (.slice none 0 0)⟩ := ⟨Tryd.underlying22, by kernel_rfl⟩
theorem ti24 : TyOk Tryd.prog 24 ⟨(Go.TypeDesc.struct #[{ name := "Pages", type := 3, offset := 0, embedded := Bool.false, tag := "", pkgPath := "", byteOffset := 0 }, { name := "Width", type := 2, offset := 1, embedded := Bool.false, tag := "", pkgPath := "", byteOffset := 8 }, { name := "Height", type := 2, offset := 2, embedded := Bool.false, tag := "", pkgPath := "", byteOffset := 16 }, { name := "Boxes", type := 22, offset := 3, embedded := Bool.false, tag := "", pkgPath := "", byteOffset := 24 }]), 4, 48, (.agg #[(.int .i64 0), (.int .i64 0), (.int .i64 0), (.slice none 0 0)])⟩ := ⟨Tryd.underlying24, by kernel_rfl⟩
theorem ti26 : TyOk Tryd.prog 26 ⟨(Go.TypeDesc.int Go.IntKind.i64), 1, 8, (.int .i64 0)⟩ := ⟨Tryd.underlying26, by kernel_rfl⟩
theorem ti28 : TyOk Tryd.prog 28 ⟨(Go.TypeDesc.struct #[{ name := "Code", type := 26, offset := 0, embedded := Bool.false, tag := "", pkgPath := "", byteOffset := 0 }, { name := "At", type := 3, offset := 1, embedded := Bool.false, tag := "", pkgPath := "", byteOffset := 8 }]), 2, 16, (.agg #[(.int .i64 0), (.int .i64 0)])⟩ := ⟨Tryd.underlying28, by kernel_rfl⟩
theorem ti37 : TyOk Tryd.prog 37 ⟨(Go.TypeDesc.struct #[{ name := "Page", type := 3, offset := 0, embedded := Bool.false, tag := "", pkgPath := "", byteOffset := 0 }, { name := "Kind", type := 3, offset := 1, embedded := Bool.false, tag := "", pkgPath := "", byteOffset := 8 }, { name := "Side", type := 3, offset := 2, embedded := Bool.false, tag := "", pkgPath := "", byteOffset := 16 }, { name := "Word", type := 3, offset := 3, embedded := Bool.false, tag := "", pkgPath := "", byteOffset := 24 }, { name := "X", type := 2, offset := 4, embedded := Bool.false, tag := "", pkgPath := "", byteOffset := 32 }, { name := "Y", type := 2, offset := 5, embedded := Bool.false, tag := "", pkgPath := "", byteOffset := 40 }, { name := "W", type := 2, offset := 6, embedded := Bool.false, tag := "", pkgPath := "", byteOffset := 48 }, { name := "H", type := 2, offset := 7, embedded := Bool.false, tag := "", pkgPath := "", byteOffset := 56 }, { name := "Text", type := 9, offset := 8, embedded := Bool.false, tag := "", pkgPath := "", byteOffset := 64 }]), 9, 80, (.agg #[(.int .i64 0), (.int .i64 0), (.int .i64 0), (.int .i64 0), (.int .i64 0), (.int .i64 0), (.int .i64 0), (.int .i64 0), (.string ⟨#[]⟩)])⟩ := ⟨Tryd.underlying37, by kernel_rfl⟩
theorem ti43 : TyOk Tryd.prog 43 ⟨(Go.TypeDesc.slice 9), 1, 24, (.slice none 0 0)⟩ := ⟨Tryd.underlying43, by kernel_rfl⟩
theorem ti47 : TyOk Tryd.prog 47 ⟨(Go.TypeDesc.slice 2), 1, 24, (.slice none 0 0)⟩ := ⟨Tryd.underlying47, by kernel_rfl⟩
theorem ti51 : TyOk Tryd.prog 51 ⟨(Go.TypeDesc.pointer 54), 1, 8, (.pointer none)⟩ := ⟨Tryd.underlying51, by kernel_rfl⟩
theorem ti52 : TyOk Tryd.prog 52 ⟨(Go.TypeDesc.slice 5), 1, 24, (.slice none 0 0)⟩ := ⟨Tryd.underlying52, by kernel_rfl⟩
theorem ti54 : TyOk Tryd.prog 54 ⟨(Go.TypeDesc.struct #[{ name := "addr", type := 51, offset := 0, embedded := Bool.false, tag := "", pkgPath := "strings", byteOffset := 0 }, { name := "buf", type := 52, offset := 1, embedded := Bool.false, tag := "", pkgPath := "strings", byteOffset := 8 }]), 2, 32, (.agg #[(.pointer none), (.slice none 0 0)])⟩ := ⟨Tryd.underlying54, by kernel_rfl⟩
theorem ti56 : TyOk Tryd.prog 56 ⟨(Go.TypeDesc.interface #[("Error", 42)]), 1, 16, .nilIface⟩ := ⟨Tryd.underlying56, by kernel_rfl⟩
theorem ti66 : TyOk Tryd.prog 66 ⟨(Go.TypeDesc.func #[37, 37] #[3] Bool.false), 1, 8, .nilFunc⟩ := ⟨Tryd.underlying66, by kernel_rfl⟩
theorem ti72 : TyOk Tryd.prog 72 ⟨(Go.TypeDesc.pointer 5), 1, 8, (.pointer none)⟩ := ⟨Tryd.underlying72, by kernel_rfl⟩
theorem ti76 : TyOk Tryd.prog 76 ⟨(Go.TypeDesc.slice 3), 1, 24, (.slice none 0 0)⟩ := ⟨Tryd.underlying76, by kernel_rfl⟩
theorem ti91 : TyOk Tryd.prog 91 ⟨(Go.TypeDesc.int Go.IntKind.u64), 1, 8, (.int .u64 0)⟩ := ⟨Tryd.underlying91, by kernel_rfl⟩
theorem ti94 : TyOk Tryd.prog 94 ⟨(Go.TypeDesc.int Go.IntKind.u64), 1, 8, (.int .u64 0)⟩ := ⟨Tryd.underlying94, by kernel_rfl⟩
theorem ti112 : TyOk Tryd.prog 112 ⟨(Go.TypeDesc.array 20 91), 20, 160, (.agg #[(.int .u64 0), (.int .u64 0), (.int .u64 0), (.int .u64 0), (.int .u64 0), (.int .u64 0), (.int .u64 0), (.int .u64 0), (.int .u64 0), (.int .u64 0), (.int .u64 0), (.int .u64 0), (.int .u64 0), (.int .u64 0), (.int .u64 0), (.int .u64 0), (.int .u64 0), (.int .u64 0), (.int .u64 0), (.int .u64 0)])⟩ := ⟨Tryd.underlying112, by kernel_rfl⟩
theorem ti123 : TyOk Tryd.prog 123 ⟨(Go.TypeDesc.pointer 125), 1, 8, (.pointer none)⟩ := ⟨Tryd.underlying123, by kernel_rfl⟩
theorem ti125 : TyOk Tryd.prog 125 ⟨(Go.TypeDesc.struct #[{ name := "s", type := 9, offset := 0, embedded := Bool.false, tag := "", pkgPath := "errors", byteOffset := 0 }]), 1, 16, (.agg #[(.string ⟨#[]⟩)])⟩ := ⟨Tryd.underlying125, by kernel_rfl⟩
def tts : List (Nat × TyI) := [
(1, ⟨(Go.TypeDesc.func #[] #[] Bool.false), 1, 8, .nilFunc⟩),
(2, ⟨(Go.TypeDesc.int Go.IntKind.i64), 1, 8, (.int .i64 0)⟩),
(3, ⟨(Go.TypeDesc.int Go.IntKind.i64), 1, 8, (.int .i64 0)⟩),
(4, ⟨Go.TypeDesc.bool, 1, 1, (.bool false)⟩),
(5, ⟨(Go.TypeDesc.int Go.IntKind.u8), 1, 1, (.int .u8 0)⟩),
(6, ⟨(Go.TypeDesc.int Go.IntKind.u8), 1, 1, (.int .u8 0)⟩),
(8, ⟨(Go.TypeDesc.struct #[{ name := "x", type := 2, offset := 0, embedded := Bool.false, tag := "", pkgPath := "runtime", byteOffset := 0 }, { name := "y", type := 3, offset := 1, embedded := Bool.false, tag := "", pkgPath := "runtime", byteOffset := 8 }, { name := "signed", type := 4, offset := 2, embedded := Bool.false, tag := "", pkgPath := "runtime", byteOffset := 16 }, { name := "code", type := 6, offset := 3, embedded := Bool.false, tag := "", pkgPath := "runtime", byteOffset := 17 }]), 4, 24, (.agg #[(.int .i64 0), (.int .i64 0), (.bool false), (.int .u8 0)])⟩),
(9, ⟨Go.TypeDesc.string, 1, 16, (.string ⟨#[]⟩)⟩),
(20, ⟨(Go.TypeDesc.interface #[]), 1, 16, .nilIface⟩),
(22, ⟨(Go.TypeDesc.slice 37), 1, 24, (.slice none 0 0)⟩),
(24, ⟨(Go.TypeDesc.struct #[{ name := "Pages", type := 3, offset := 0, embedded := Bool.false, tag := "", pkgPath := "", byteOffset := 0 }, { name := "Width", type := 2, offset := 1, embedded := Bool.false, tag := "", pkgPath := "", byteOffset := 8 }, { name := "Height", type := 2, offset := 2, embedded := Bool.false, tag := "", pkgPath := "", byteOffset := 16 }, { name := "Boxes", type := 22, offset := 3, embedded := Bool.false, tag := "", pkgPath := "", byteOffset := 24 }]), 4, 48, (.agg #[(.int .i64 0), (.int .i64 0), (.int .i64 0), (.slice none 0 0)])⟩),
(26, ⟨(Go.TypeDesc.int Go.IntKind.i64), 1, 8, (.int .i64 0)⟩),
(28, ⟨(Go.TypeDesc.struct #[{ name := "Code", type := 26, offset := 0, embedded := Bool.false, tag := "", pkgPath := "", byteOffset := 0 }, { name := "At", type := 3, offset := 1, embedded := Bool.false, tag := "", pkgPath := "", byteOffset := 8 }]), 2, 16, (.agg #[(.int .i64 0), (.int .i64 0)])⟩),
(37, ⟨(Go.TypeDesc.struct #[{ name := "Page", type := 3, offset := 0, embedded := Bool.false, tag := "", pkgPath := "", byteOffset := 0 }, { name := "Kind", type := 3, offset := 1, embedded := Bool.false, tag := "", pkgPath := "", byteOffset := 8 }, { name := "Side", type := 3, offset := 2, embedded := Bool.false, tag := "", pkgPath := "", byteOffset := 16 }, { name := "Word", type := 3, offset := 3, embedded := Bool.false, tag := "", pkgPath := "", byteOffset := 24 }, { name := "X", type := 2, offset := 4, embedded := Bool.false, tag := "", pkgPath := "", byteOffset := 32 }, { name := "Y", type := 2, offset := 5, embedded := Bool.false, tag := "", pkgPath := "", byteOffset := 40 }, { name := "W", type := 2, offset := 6, embedded := Bool.false, tag := "", pkgPath := "", byteOffset := 48 }, { name := "H", type := 2, offset := 7, embedded := Bool.false, tag := "", pkgPath := "", byteOffset := 56 }, { name := "Text", type := 9, offset := 8, embedded := Bool.false, tag := "", pkgPath := "", byteOffset := 64 }]), 9, 80, (.agg #[(.int .i64 0), (.int .i64 0), (.int .i64 0), (.int .i64 0), (.int .i64 0), (.int .i64 0), (.int .i64 0), (.int .i64 0), (.string ⟨#[]⟩)])⟩),
(43, ⟨(Go.TypeDesc.slice 9), 1, 24, (.slice none 0 0)⟩),
(47, ⟨(Go.TypeDesc.slice 2), 1, 24, (.slice none 0 0)⟩),
(51, ⟨(Go.TypeDesc.pointer 54), 1, 8, (.pointer none)⟩),
(52, ⟨(Go.TypeDesc.slice 5), 1, 24, (.slice none 0 0)⟩),
(54, ⟨(Go.TypeDesc.struct #[{ name := "addr", type := 51, offset := 0, embedded := Bool.false, tag := "", pkgPath := "strings", byteOffset := 0 }, { name := "buf", type := 52, offset := 1, embedded := Bool.false, tag := "", pkgPath := "strings", byteOffset := 8 }]), 2, 32, (.agg #[(.pointer none), (.slice none 0 0)])⟩),
(56, ⟨(Go.TypeDesc.interface #[("Error", 42)]), 1, 16, .nilIface⟩),
(66, ⟨(Go.TypeDesc.func #[37, 37] #[3] Bool.false), 1, 8, .nilFunc⟩),
(72, ⟨(Go.TypeDesc.pointer 5), 1, 8, (.pointer none)⟩),
(76, ⟨(Go.TypeDesc.slice 3), 1, 24, (.slice none 0 0)⟩),
(91, ⟨(Go.TypeDesc.int Go.IntKind.u64), 1, 8, (.int .u64 0)⟩),
(94, ⟨(Go.TypeDesc.int Go.IntKind.u64), 1, 8, (.int .u64 0)⟩),
(112, ⟨(Go.TypeDesc.array 20 91), 20, 160, (.agg #[(.int .u64 0), (.int .u64 0), (.int .u64 0), (.int .u64 0), (.int .u64 0), (.int .u64 0), (.int .u64 0), (.int .u64 0), (.int .u64 0), (.int .u64 0), (.int .u64 0), (.int .u64 0), (.int .u64 0), (.int .u64 0), (.int .u64 0), (.int .u64 0), (.int .u64 0), (.int .u64 0), (.int .u64 0), (.int .u64 0)])⟩),
(123, ⟨(Go.TypeDesc.pointer 125), 1, 8, (.pointer none)⟩),
(125, ⟨(Go.TypeDesc.struct #[{ name := "s", type := 9, offset := 0, embedded := Bool.false, tag := "", pkgPath := "errors", byteOffset := 0 }]), 1, 16, (.agg #[(.string ⟨#[]⟩)])⟩)]
abbrev tt : TypeId → Option TyI := lkT tts
theorem tt_ok : TOk Tryd.prog tt := TOk.of tts (fun p hp => by
  simp only [tts, List.mem_cons, List.mem_nil_iff, or_false] at hp
  rcases hp with rfl | rfl | rfl | rfl | rfl | rfl | rfl | rfl | rfl | rfl | rfl | rfl | rfl | rfl | rfl | rfl | rfl | rfl | rfl | rfl | rfl | rfl | rfl | rfl | rfl | rfl | rfl | rfl
  · exact ti1
  · exact ti2
  · exact ti3
  · exact ti4
  · exact ti5
  · exact ti6
  · exact ti8
  · exact ti9
  · exact ti20
  · exact ti22
  · exact ti24
  · exact ti26
  · exact ti28
  · exact ti37
  · exact ti43
  · exact ti47
  · exact ti51
  · exact ti52
  · exact ti54
  · exact ti56
  · exact ti66
  · exact ti72
  · exact ti76
  · exact ti91
  · exact ti94
  · exact ti112
  · exact ti123
  · exact ti125
)
end Go.Proofs.YtejdeonbibbchaaDoor
