/- What is known of the program's types: written by a program of this session's. -/
import Derived.Test.YtkjekbgfmkfkjaaDoorD15
import Derived.Test.YtkjekbgfmkfkjaaDoorProg
import Derived.KernelRfl
namespace Go.Proofs.YtkjekbgfmkfkjaaDoor
open Go Go.Proofs.YtkjekbgfmkfkjaaDoor.DL
set_option linter.unusedVariables false
set_option linter.unusedSimpArgs false
set_option linter.constructorNameAsVariable false
set_option maxRecDepth 100000
theorem ti1 : TyOk Tryd.prog 1 ⟨(Go.TypeDesc.func #[] #[] Bool.false), 1, 8, .nilFunc⟩ := ⟨Tryd.underlying1, by kernel_rfl⟩
theorem ti2 : TyOk Tryd.prog 2 ⟨(Go.TypeDesc.int Go.IntKind.i64), 1, 8, (.int .i64 0)⟩ := ⟨Tryd.underlying2, by kernel_rfl⟩
theorem ti3 : TyOk Tryd.prog 3 ⟨(Go.TypeDesc.int Go.IntKind.i64), 1, 8, (.int .i64 0)⟩ := ⟨Tryd.underlying3, by kernel_rfl⟩
theorem ti4 : TyOk Tryd.prog 4 ⟨Go.TypeDesc.bool, 1, 1, (.bool false)⟩ := ⟨Tryd.underlying4, by kernel_rfl⟩
theorem ti5 : TyOk Tryd.prog 5 ⟨(Go.TypeDesc.int Go.IntKind.u8), 1, 1, (.int .u8 0)⟩ := ⟨Tryd.underlying5, by kernel_rfl⟩
theorem ti9 : TyOk Tryd.prog 9 ⟨Go.TypeDesc.string, 1, 16, (.string ⟨#[]⟩)⟩ := ⟨Tryd.underlying9, by kernel_rfl⟩
theorem ti59 : TyOk Tryd.prog 59 ⟨(Go.TypeDesc.struct #[{ name := "A", type := 2, offset := 0, embedded := Bool.false, tag := "", pkgPath := "", byteOffset := 0 }, { name := "B", type := 2, offset := 1, embedded := Bool.false, tag := "", pkgPath := "", byteOffset := 8 }, { name := "C", type := 2, offset := 2, embedded := Bool.false, tag := "", pkgPath := "", byteOffset := 16 }]), 3, 24, (.agg #[(.int .i64 0), (.int .i64 0), (.int .i64 0)])⟩ := ⟨Tryd.underlying59, by kernel_rfl⟩
theorem ti79 : TyOk Tryd.prog 79 ⟨(Go.TypeDesc.pointer 82), 1, 8, (.pointer none)⟩ := ⟨Tryd.underlying79, by kernel_rfl⟩
theorem ti80 : TyOk Tryd.prog 80 ⟨(Go.TypeDesc.slice 5), 1, 24, (.slice none 0 0)⟩ := ⟨Tryd.underlying80, by kernel_rfl⟩
theorem ti82 : TyOk Tryd.prog 82 ⟨(Go.TypeDesc.struct #[{ name := "addr", type := 79, offset := 0, embedded := Bool.false, tag := "", pkgPath := "strings", byteOffset := 0 }, { name := "buf", type := 80, offset := 1, embedded := Bool.false, tag := "", pkgPath := "strings", byteOffset := 8 }]), 2, 32, (.agg #[(.pointer none), (.slice none 0 0)])⟩ := ⟨Tryd.underlying82, by kernel_rfl⟩
theorem ti84 : TyOk Tryd.prog 84 ⟨(Go.TypeDesc.interface #[("Error", 87)]), 1, 16, .nilIface⟩ := ⟨Tryd.underlying84, by kernel_rfl⟩
theorem ti98 : TyOk Tryd.prog 98 ⟨(Go.TypeDesc.int Go.IntKind.u64), 1, 8, (.int .u64 0)⟩ := ⟨Tryd.underlying98, by kernel_rfl⟩
theorem ti105 : TyOk Tryd.prog 105 ⟨(Go.TypeDesc.int Go.IntKind.u64), 1, 8, (.int .u64 0)⟩ := ⟨Tryd.underlying105, by kernel_rfl⟩
theorem ti108 : TyOk Tryd.prog 108 ⟨(Go.TypeDesc.pointer 5), 1, 8, (.pointer none)⟩ := ⟨Tryd.underlying108, by kernel_rfl⟩
theorem ti115 : TyOk Tryd.prog 115 ⟨(Go.TypeDesc.pointer 111), 1, 8, (.pointer none)⟩ := ⟨Tryd.underlying115, by kernel_rfl⟩
theorem ti165 : TyOk Tryd.prog 165 ⟨(Go.TypeDesc.array 20 98), 20, 160, (.agg #[(.int .u64 0), (.int .u64 0), (.int .u64 0), (.int .u64 0), (.int .u64 0), (.int .u64 0), (.int .u64 0), (.int .u64 0), (.int .u64 0), (.int .u64 0), (.int .u64 0), (.int .u64 0), (.int .u64 0), (.int .u64 0), (.int .u64 0), (.int .u64 0), (.int .u64 0), (.int .u64 0), (.int .u64 0), (.int .u64 0)])⟩ := ⟨Tryd.underlying165, by kernel_rfl⟩
theorem ti177 : TyOk Tryd.prog 177 ⟨(Go.TypeDesc.pointer 179), 1, 8, (.pointer none)⟩ := ⟨Tryd.underlying177, by kernel_rfl⟩
theorem ti179 : TyOk Tryd.prog 179 ⟨(Go.TypeDesc.struct #[{ name := "s", type := 9, offset := 0, embedded := Bool.false, tag := "", pkgPath := "errors", byteOffset := 0 }]), 1, 16, (.agg #[(.string ⟨#[]⟩)])⟩ := ⟨Tryd.underlying179, by kernel_rfl⟩
def tts : List (Nat × TyI) := [
(1, ⟨(Go.TypeDesc.func #[] #[] Bool.false), 1, 8, .nilFunc⟩),
(2, ⟨(Go.TypeDesc.int Go.IntKind.i64), 1, 8, (.int .i64 0)⟩),
(3, ⟨(Go.TypeDesc.int Go.IntKind.i64), 1, 8, (.int .i64 0)⟩),
(4, ⟨Go.TypeDesc.bool, 1, 1, (.bool false)⟩),
(5, ⟨(Go.TypeDesc.int Go.IntKind.u8), 1, 1, (.int .u8 0)⟩),
(9, ⟨Go.TypeDesc.string, 1, 16, (.string ⟨#[]⟩)⟩),
(59, ⟨(Go.TypeDesc.struct #[{ name := "A", type := 2, offset := 0, embedded := Bool.false, tag := "", pkgPath := "", byteOffset := 0 }, { name := "B", type := 2, offset := 1, embedded := Bool.false, tag := "", pkgPath := "", byteOffset := 8 }, { name := "C", type := 2, offset := 2, embedded := Bool.false, tag := "", pkgPath := "", byteOffset := 16 }]), 3, 24, (.agg #[(.int .i64 0), (.int .i64 0), (.int .i64 0)])⟩),
(79, ⟨(Go.TypeDesc.pointer 82), 1, 8, (.pointer none)⟩),
(80, ⟨(Go.TypeDesc.slice 5), 1, 24, (.slice none 0 0)⟩),
(82, ⟨(Go.TypeDesc.struct #[{ name := "addr", type := 79, offset := 0, embedded := Bool.false, tag := "", pkgPath := "strings", byteOffset := 0 }, { name := "buf", type := 80, offset := 1, embedded := Bool.false, tag := "", pkgPath := "strings", byteOffset := 8 }]), 2, 32, (.agg #[(.pointer none), (.slice none 0 0)])⟩),
(84, ⟨(Go.TypeDesc.interface #[("Error", 87)]), 1, 16, .nilIface⟩),
(98, ⟨(Go.TypeDesc.int Go.IntKind.u64), 1, 8, (.int .u64 0)⟩),
(105, ⟨(Go.TypeDesc.int Go.IntKind.u64), 1, 8, (.int .u64 0)⟩),
(108, ⟨(Go.TypeDesc.pointer 5), 1, 8, (.pointer none)⟩),
(115, ⟨(Go.TypeDesc.pointer 111), 1, 8, (.pointer none)⟩),
(165, ⟨(Go.TypeDesc.array 20 98), 20, 160, (.agg #[(.int .u64 0), (.int .u64 0), (.int .u64 0), (.int .u64 0), (.int .u64 0), (.int .u64 0), (.int .u64 0), (.int .u64 0), (.int .u64 0), (.int .u64 0), (.int .u64 0), (.int .u64 0), (.int .u64 0), (.int .u64 0), (.int .u64 0), (.int .u64 0), (.int .u64 0), (.int .u64 0), (.int .u64 0), (.int .u64 0)])⟩),
(177, ⟨(Go.TypeDesc.pointer 179), 1, 8, (.pointer none)⟩),
(179, ⟨(Go.TypeDesc.struct #[{ name := "s", type := 9, offset := 0, embedded := Bool.false, tag := "", pkgPath := "errors", byteOffset := 0 }]), 1, 16, (.agg #[(.string ⟨#[]⟩)])⟩)]
abbrev tt : TypeId → Option TyI := lkT tts
theorem tt_ok : TOk Tryd.prog tt := TOk.of tts (fun p hp => by
  simp only [tts, List.mem_cons, List.mem_nil_iff, or_false] at hp
  rcases hp with rfl | rfl | rfl | rfl | rfl | rfl | rfl | rfl | rfl | rfl | rfl | rfl | rfl | rfl | rfl | rfl | rfl | rfl
  · exact ti1
  · exact ti2
  · exact ti3
  · exact ti4
  · exact ti5
  · exact ti9
  · exact ti59
  · exact ti79
  · exact ti80
  · exact ti82
  · exact ti84
  · exact ti98
  · exact ti105
  · exact ti108
  · exact ti115
  · exact ti165
  · exact ti177
  · exact ti179
)
end Go.Proofs.YtkjekbgfmkfkjaaDoor
