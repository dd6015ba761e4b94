/- What is known of the program's types: written by a program of this session's. -/
import Derived.Test.YtgjamldcglebjaaD11
import Derived.Test.YtgjamldcglebjaaProg
import Derived.KernelRfl
namespace Go.Proofs.Ytgjamldcglebjaa
open Go Go.Proofs.Ytgjamldcglebjaa.DL
set_option maxRecDepth 100000
theorem ti1 : TyOk Try.prog 1 ⟨(Go.TypeDesc.func #[] #[] Bool.false), 1, 8, .nilFunc⟩ := ⟨Try.underlying1, by kernel_rfl⟩
theorem ti2 : TyOk Try.prog 2 ⟨(Go.TypeDesc.int Go.IntKind.i64), 1, 8, (.int .i64 0)⟩ := ⟨Try.underlying2, by kernel_rfl⟩
theorem ti3 : TyOk Try.prog 3 ⟨(Go.TypeDesc.int Go.IntKind.i64), 1, 8, (.int .i64 0)⟩ := ⟨Try.underlying3, by kernel_rfl⟩
theorem ti4 : TyOk Try.prog 4 ⟨Go.TypeDesc.bool, 1, 1, (.bool false)⟩ := ⟨Try.underlying4, by kernel_rfl⟩
theorem ti5 : TyOk Try.prog 5 ⟨(Go.TypeDesc.int Go.IntKind.u8), 1, 1, (.int .u8 0)⟩ := ⟨Try.underlying5, by kernel_rfl⟩
theorem ti6 : TyOk Try.prog 6 ⟨(Go.TypeDesc.int Go.IntKind.u8), 1, 1, (.int .u8 0)⟩ := ⟨Try.underlying6, by kernel_rfl⟩
theorem ti7 : TyOk Try.prog 7 ⟨(Go.TypeDesc.struct #[{ name := "x", type := 2, offset := 0, embedded := Bool.false, tag := "", pkgPath := "runtime", byteOffset := 0 }, { name := "y", type := 3, offset := 1, embedded := Bool.false, tag := "", pkgPath := "runtime", byteOffset := 8 }, { name := "signed", type := 4, offset := 2, embedded := Bool.false, tag := "", pkgPath := "runtime", byteOffset := 16 }, { name := "code", type := 6, offset := 3, embedded := Bool.false, tag := "", pkgPath := "runtime", byteOffset := 17 }]), 4, 24, (.agg #[(.int .i64 0), (.int .i64 0), (.bool false), (.int .u8 0)])⟩ := ⟨Try.underlying7, by kernel_rfl⟩
theorem ti8 : TyOk Try.prog 8 ⟨(Go.TypeDesc.struct #[{ name := "x", type := 2, offset := 0, embedded := Bool.false, tag := "", pkgPath := "runtime", byteOffset := 0 }, { name := "y", type := 3, offset := 1, embedded := Bool.false, tag := "", pkgPath := "runtime", byteOffset := 8 }, { name := "signed", type := 4, offset := 2, embedded := Bool.false, tag := "", pkgPath := "runtime", byteOffset := 16 }, { name := "code", type := 6, offset := 3, embedded := Bool.false, tag := "", pkgPath := "runtime", byteOffset := 17 }]), 4, 24, (.agg #[(.int .i64 0), (.int .i64 0), (.bool false), (.int .u8 0)])⟩ := ⟨Try.underlying8, by kernel_rfl⟩
theorem ti9 : TyOk Try.prog 9 ⟨Go.TypeDesc.string, 1, 16, (.string ⟨#[]⟩)⟩ := ⟨Try.underlying9, by kernel_rfl⟩
theorem ti10 : TyOk Try.prog 10 ⟨Go.TypeDesc.string, 1, 16, (.string ⟨#[]⟩)⟩ := ⟨Try.underlying10, by kernel_rfl⟩
theorem ti11 : TyOk Try.prog 11 ⟨Go.TypeDesc.string, 1, 16, (.string ⟨#[]⟩)⟩ := ⟨Try.underlying11, by kernel_rfl⟩
theorem ti12 : TyOk Try.prog 12 ⟨(Go.TypeDesc.int Go.IntKind.u64), 1, 8, (.int .u64 0)⟩ := ⟨Try.underlying12, by kernel_rfl⟩
theorem ti13 : TyOk Try.prog 13 ⟨(Go.TypeDesc.struct #[{ name := "msg", type := 9, offset := 0, embedded := Bool.false, tag := "", pkgPath := "runtime", byteOffset := 0 }, { name := "addr", type := 12, offset := 1, embedded := Bool.false, tag := "", pkgPath := "runtime", byteOffset := 16 }]), 2, 24, (.agg #[(.string ⟨#[]⟩), (.int .u64 0)])⟩ := ⟨Try.underlying13, by kernel_rfl⟩
theorem ti14 : TyOk Try.prog 14 ⟨(Go.TypeDesc.struct #[{ name := "msg", type := 9, offset := 0, embedded := Bool.false, tag := "", pkgPath := "runtime", byteOffset := 0 }, { name := "addr", type := 12, offset := 1, embedded := Bool.false, tag := "", pkgPath := "runtime", byteOffset := 16 }]), 2, 24, (.agg #[(.string ⟨#[]⟩), (.int .u64 0)])⟩ := ⟨Try.underlying14, by kernel_rfl⟩
theorem ti15 : TyOk Try.prog 15 ⟨(Go.TypeDesc.pointer 94), 1, 8, (.pointer none)⟩ := ⟨Try.underlying15, by kernel_rfl⟩
theorem ti16 : TyOk Try.prog 16 ⟨(Go.TypeDesc.pointer 97), 1, 8, (.pointer none)⟩ := ⟨Try.underlying16, by kernel_rfl⟩
theorem ti17 : TyOk Try.prog 17 ⟨(Go.TypeDesc.pointer 107), 1, 8, (.pointer none)⟩ := ⟨Try.underlying17, by kernel_rfl⟩
theorem ti18 : TyOk Try.prog 18 ⟨(Go.TypeDesc.struct #[{ name := "typ", type := 17, offset := 0, embedded := Bool.false, tag := "", pkgPath := "internal/runtime/maps", byteOffset := 0 }]), 1, 8, (.agg #[(.pointer none)])⟩ := ⟨Try.underlying18, by kernel_rfl⟩
theorem ti19 : TyOk Try.prog 19 ⟨(Go.TypeDesc.struct #[{ name := "typ", type := 17, offset := 0, embedded := Bool.false, tag := "", pkgPath := "internal/runtime/maps", byteOffset := 0 }]), 1, 8, (.agg #[(.pointer none)])⟩ := ⟨Try.underlying19, by kernel_rfl⟩
theorem ti20 : TyOk Try.prog 20 ⟨(Go.TypeDesc.interface #[]), 1, 16, .nilIface⟩ := ⟨Try.underlying20, by kernel_rfl⟩
theorem ti21 : TyOk Try.prog 21 ⟨(Go.TypeDesc.int Go.IntKind.i32), 1, 4, (.int .i32 0)⟩ := ⟨Try.underlying21, by kernel_rfl⟩
theorem ti22 : TyOk Try.prog 22 ⟨(Go.TypeDesc.slice 41), 1, 24, (.slice none 0 0)⟩ := ⟨Try.underlying22, by kernel_rfl⟩
theorem ti23 : TyOk Try.prog 23 ⟨(Go.TypeDesc.array 10 2), 10, 80, (.agg #[(.int .i64 0), (.int .i64 0), (.int .i64 0), (.int .i64 0), (.int .i64 0), (.int .i64 0), (.int .i64 0), (.int .i64 0), (.int .i64 0), (.int .i64 0)])⟩ := ⟨Try.underlying23, by kernel_rfl⟩
theorem ti24 : TyOk Try.prog 24 ⟨(Go.TypeDesc.struct #[{ name := "From", type := 3, offset := 0, embedded := Bool.false, tag := "", pkgPath := "", byteOffset := 0 }, { name := "Many", type := 3, offset := 1, embedded := Bool.false, tag := "", pkgPath := "", byteOffset := 8 }, { name := "Left", type := 23, offset := 2, embedded := Bool.false, tag := "", pkgPath := "", byteOffset := 16 }]), 12, 96, (.agg #[(.int .i64 0), (.int .i64 0), (.int .i64 0), (.int .i64 0), (.int .i64 0), (.int .i64 0), (.int .i64 0), (.int .i64 0), (.int .i64 0), (.int .i64 0), (.int .i64 0), (.int .i64 0)])⟩ := ⟨Try.underlying24, by kernel_rfl⟩
theorem ti25 : TyOk Try.prog 25 ⟨(Go.TypeDesc.struct #[{ name := "From", type := 3, offset := 0, embedded := Bool.false, tag := "", pkgPath := "", byteOffset := 0 }, { name := "Many", type := 3, offset := 1, embedded := Bool.false, tag := "", pkgPath := "", byteOffset := 8 }, { name := "Left", type := 23, offset := 2, embedded := Bool.false, tag := "", pkgPath := "", byteOffset := 16 }]), 12, 96, (.agg #[(.int .i64 0), (.int .i64 0), (.int .i64 0), (.int .i64 0), (.int .i64 0), (.int .i64 0), (.int .i64 0), (.int .i64 0), (.int .i64 0), (.int .i64 0), (.int .i64 0), (.int .i64 0)])⟩ := ⟨Try.underlying25, by kernel_rfl⟩
theorem ti26 : TyOk Try.prog 26 ⟨(Go.TypeDesc.struct #[{ name := "Height", type := 2, offset := 0, embedded := Bool.false, tag := "", pkgPath := "", byteOffset := 0 }, { name := "Rule", type := 2, offset := 1, embedded := Bool.false, tag := "", pkgPath := "", byteOffset := 8 }, { name := "Unit", type := 2, offset := 2, embedded := Bool.false, tag := "", pkgPath := "", byteOffset := 16 }]), 3, 24, (.agg #[(.int .i64 0), (.int .i64 0), (.int .i64 0)])⟩ := ⟨Try.underlying26, by kernel_rfl⟩
theorem ti27 : TyOk Try.prog 27 ⟨(Go.TypeDesc.struct #[{ name := "Height", type := 2, offset := 0, embedded := Bool.false, tag := "", pkgPath := "", byteOffset := 0 }, { name := "Rule", type := 2, offset := 1, embedded := Bool.false, tag := "", pkgPath := "", byteOffset := 8 }, { name := "Unit", type := 2, offset := 2, embedded := Bool.false, tag := "", pkgPath := "", byteOffset := 16 }]), 3, 24, (.agg #[(.int .i64 0), (.int .i64 0), (.int .i64 0)])⟩ := ⟨Try.underlying27, by kernel_rfl⟩
theorem ti28 : TyOk Try.prog 28 ⟨(Go.TypeDesc.func #[] #[4] Bool.false), 1, 8, .nilFunc⟩ := ⟨Try.underlying28, by kernel_rfl⟩
theorem ti29 : TyOk Try.prog 29 ⟨(Go.TypeDesc.struct #[{ name := "From", type := 3, offset := 0, embedded := Bool.false, tag := "", pkgPath := "", byteOffset := 0 }, { name := "Many", type := 3, offset := 1, embedded := Bool.false, tag := "", pkgPath := "", byteOffset := 8 }, { name := "Shown", type := 23, offset := 2, embedded := Bool.false, tag := "", pkgPath := "", byteOffset := 16 }, { name := "Left", type := 23, offset := 12, embedded := Bool.false, tag := "", pkgPath := "", byteOffset := 96 }]), 22, 176, (.agg #[(.int .i64 0), (.int .i64 0), (.int .i64 0), (.int .i64 0), (.int .i64 0), (.int .i64 0), (.int .i64 0), (.int .i64 0), (.int .i64 0), (.int .i64 0), (.int .i64 0), (.int .i64 0), (.int .i64 0), (.int .i64 0), (.int .i64 0), (.int .i64 0), (.int .i64 0), (.int .i64 0), (.int .i64 0), (.int .i64 0), (.int .i64 0), (.int .i64 0)])⟩ := ⟨Try.underlying29, by kernel_rfl⟩
theorem ti30 : TyOk Try.prog 30 ⟨(Go.TypeDesc.struct #[{ name := "From", type := 3, offset := 0, embedded := Bool.false, tag := "", pkgPath := "", byteOffset := 0 }, { name := "Many", type := 3, offset := 1, embedded := Bool.false, tag := "", pkgPath := "", byteOffset := 8 }, { name := "Shown", type := 23, offset := 2, embedded := Bool.false, tag := "", pkgPath := "", byteOffset := 16 }, { name := "Left", type := 23, offset := 12, embedded := Bool.false, tag := "", pkgPath := "", byteOffset := 96 }]), 22, 176, (.agg #[(.int .i64 0), (.int .i64 0), (.int .i64 0), (.int .i64 0), (.int .i64 0), (.int .i64 0), (.int .i64 0), (.int .i64 0), (.int .i64 0), (.int .i64 0), (.int .i64 0), (.int .i64 0), (.int .i64 0), (.int .i64 0), (.int .i64 0), (.int .i64 0), (.int .i64 0), (.int .i64 0), (.int .i64 0), (.int .i64 0), (.int .i64 0), (.int .i64 0)])⟩ := ⟨Try.underlying30, by kernel_rfl⟩
theorem ti32 : TyOk Try.prog 32 ⟨(Go.TypeDesc.func #[22, 3, 23, 27] #[30, 4] Bool.false), 1, 8, .nilFunc⟩ := ⟨Try.underlying32, by kernel_rfl⟩
theorem ti33 : TyOk Try.prog 33 ⟨(Go.TypeDesc.func #[22, 27] #[4] Bool.false), 1, 8, .nilFunc⟩ := ⟨Try.underlying33, by kernel_rfl⟩
theorem ti34 : TyOk Try.prog 34 ⟨(Go.TypeDesc.func #[22, 3, 3, 23, 27] #[2] Bool.false), 1, 8, .nilFunc⟩ := ⟨Try.underlying34, by kernel_rfl⟩
theorem ti35 : TyOk Try.prog 35 ⟨(Go.TypeDesc.func #[22, 3, 23, 27] #[3] Bool.false), 1, 8, .nilFunc⟩ := ⟨Try.underlying35, by kernel_rfl⟩
theorem ti36 : TyOk Try.prog 36 ⟨(Go.TypeDesc.func #[22, 25, 27] #[4] Bool.false), 1, 8, .nilFunc⟩ := ⟨Try.underlying36, by kernel_rfl⟩
theorem ti37 : TyOk Try.prog 37 ⟨(Go.TypeDesc.func #[22, 23] #[23] Bool.false), 1, 8, .nilFunc⟩ := ⟨Try.underlying37, by kernel_rfl⟩
theorem ti38 : TyOk Try.prog 38 ⟨(Go.TypeDesc.func #[22] #[2] Bool.false), 1, 8, .nilFunc⟩ := ⟨Try.underlying38, by kernel_rfl⟩
theorem ti39 : TyOk Try.prog 39 ⟨(Go.TypeDesc.func #[23, 2] #[2] Bool.false), 1, 8, .nilFunc⟩ := ⟨Try.underlying39, by kernel_rfl⟩
theorem ti40 : TyOk Try.prog 40 ⟨(Go.TypeDesc.struct #[{ name := "Main", type := 2, offset := 0, embedded := Bool.false, tag := "", pkgPath := "", byteOffset := 0 }, { name := "Notes", type := 23, offset := 1, embedded := Bool.false, tag := "", pkgPath := "", byteOffset := 8 }]), 11, 88, (.agg #[(.int .i64 0), (.int .i64 0), (.int .i64 0), (.int .i64 0), (.int .i64 0), (.int .i64 0), (.int .i64 0), (.int .i64 0), (.int .i64 0), (.int .i64 0), (.int .i64 0)])⟩ := ⟨Try.underlying40, by kernel_rfl⟩
theorem ti41 : TyOk Try.prog 41 ⟨(Go.TypeDesc.struct #[{ name := "Main", type := 2, offset := 0, embedded := Bool.false, tag := "", pkgPath := "", byteOffset := 0 }, { name := "Notes", type := 23, offset := 1, embedded := Bool.false, tag := "", pkgPath := "", byteOffset := 8 }]), 11, 88, (.agg #[(.int .i64 0), (.int .i64 0), (.int .i64 0), (.int .i64 0), (.int .i64 0), (.int .i64 0), (.int .i64 0), (.int .i64 0), (.int .i64 0), (.int .i64 0), (.int .i64 0)])⟩ := ⟨Try.underlying41, by kernel_rfl⟩
theorem ti42 : TyOk Try.prog 42 ⟨(Go.TypeDesc.slice 30), 1, 24, (.slice none 0 0)⟩ := ⟨Try.underlying42, by kernel_rfl⟩
theorem ti43 : TyOk Try.prog 43 ⟨(Go.TypeDesc.int Go.IntKind.i64), 1, 8, (.int .i64 0)⟩ := ⟨Try.underlying43, by kernel_rfl⟩
theorem ti44 : TyOk Try.prog 44 ⟨(Go.TypeDesc.struct #[{ name := "Code", type := 43, offset := 0, embedded := Bool.false, tag := "", pkgPath := "", byteOffset := 0 }, { name := "At", type := 3, offset := 1, embedded := Bool.false, tag := "", pkgPath := "", byteOffset := 8 }]), 2, 16, (.agg #[(.int .i64 0), (.int .i64 0)])⟩ := ⟨Try.underlying44, by kernel_rfl⟩
theorem ti45 : TyOk Try.prog 45 ⟨(Go.TypeDesc.struct #[{ name := "Code", type := 43, offset := 0, embedded := Bool.false, tag := "", pkgPath := "", byteOffset := 0 }, { name := "At", type := 3, offset := 1, embedded := Bool.false, tag := "", pkgPath := "", byteOffset := 8 }]), 2, 16, (.agg #[(.int .i64 0), (.int .i64 0)])⟩ := ⟨Try.underlying45, by kernel_rfl⟩
theorem ti47 : TyOk Try.prog 47 ⟨(Go.TypeDesc.func #[22, 27] #[42, 45] Bool.false), 1, 8, .nilFunc⟩ := ⟨Try.underlying47, by kernel_rfl⟩
theorem ti48 : TyOk Try.prog 48 ⟨(Go.TypeDesc.func #[42, 42] #[4] Bool.false), 1, 8, .nilFunc⟩ := ⟨Try.underlying48, by kernel_rfl⟩
theorem ti49 : TyOk Try.prog 49 ⟨(Go.TypeDesc.func #[42, 3] #[3] Bool.false), 1, 8, .nilFunc⟩ := ⟨Try.underlying49, by kernel_rfl⟩
theorem ti50 : TyOk Try.prog 50 ⟨(Go.TypeDesc.func #[22, 27, 3] #[4] Bool.false), 1, 8, .nilFunc⟩ := ⟨Try.underlying50, by kernel_rfl⟩
theorem ti51 : TyOk Try.prog 51 ⟨(Go.TypeDesc.func #[3, 2, 27] #[4] Bool.false), 1, 8, .nilFunc⟩ := ⟨Try.underlying51, by kernel_rfl⟩
theorem ti52 : TyOk Try.prog 52 ⟨(Go.TypeDesc.slice 56), 1, 24, (.slice none 0 0)⟩ := ⟨Try.underlying52, by kernel_rfl⟩
theorem ti53 : TyOk Try.prog 53 ⟨(Go.TypeDesc.func #[56, 56] #[4] Bool.false), 1, 8, .nilFunc⟩ := ⟨Try.underlying53, by kernel_rfl⟩
theorem ti54 : TyOk Try.prog 54 ⟨(Go.TypeDesc.slice 109), 1, 24, (.slice none 0 0)⟩ := ⟨Try.underlying54, by kernel_rfl⟩
theorem ti55 : TyOk Try.prog 55 ⟨(Go.TypeDesc.struct #[{ name := "Series", type := 3, offset := 0, embedded := Bool.false, tag := "", pkgPath := "", byteOffset := 0 }, { name := "From", type := 3, offset := 1, embedded := Bool.false, tag := "", pkgPath := "", byteOffset := 8 }, { name := "To", type := 3, offset := 2, embedded := Bool.false, tag := "", pkgPath := "", byteOffset := 16 }, { name := "Text", type := 54, offset := 3, embedded := Bool.false, tag := "", pkgPath := "", byteOffset := 24 }, { name := "At", type := 3, offset := 4, embedded := Bool.false, tag := "", pkgPath := "", byteOffset := 48 }]), 5, 56, (.agg #[(.int .i64 0), (.int .i64 0), (.int .i64 0), (.slice none 0 0), (.int .i64 0)])⟩ := ⟨Try.underlying55, by kernel_rfl⟩
theorem ti56 : TyOk Try.prog 56 ⟨(Go.TypeDesc.struct #[{ name := "Series", type := 3, offset := 0, embedded := Bool.false, tag := "", pkgPath := "", byteOffset := 0 }, { name := "From", type := 3, offset := 1, embedded := Bool.false, tag := "", pkgPath := "", byteOffset := 8 }, { name := "To", type := 3, offset := 2, embedded := Bool.false, tag := "", pkgPath := "", byteOffset := 16 }, { name := "Text", type := 54, offset := 3, embedded := Bool.false, tag := "", pkgPath := "", byteOffset := 24 }, { name := "At", type := 3, offset := 4, embedded := Bool.false, tag := "", pkgPath := "", byteOffset := 48 }]), 5, 56, (.agg #[(.int .i64 0), (.int .i64 0), (.int .i64 0), (.slice none 0 0), (.int .i64 0)])⟩ := ⟨Try.underlying56, by kernel_rfl⟩
theorem ti57 : TyOk Try.prog 57 ⟨(Go.TypeDesc.func #[58, 58] #[4] Bool.false), 1, 8, .nilFunc⟩ := ⟨Try.underlying57, by kernel_rfl⟩
theorem ti58 : TyOk Try.prog 58 ⟨(Go.TypeDesc.slice 3), 1, 24, (.slice none 0 0)⟩ := ⟨Try.underlying58, by kernel_rfl⟩
theorem ti59 : TyOk Try.prog 59 ⟨(Go.TypeDesc.func #[52] #[58] Bool.false), 1, 8, .nilFunc⟩ := ⟨Try.underlying59, by kernel_rfl⟩
theorem ti60 : TyOk Try.prog 60 ⟨(Go.TypeDesc.func #[52, 3] #[58] Bool.false), 1, 8, .nilFunc⟩ := ⟨Try.underlying60, by kernel_rfl⟩
theorem ti61 : TyOk Try.prog 61 ⟨(Go.TypeDesc.func #[52, 3] #[4] Bool.false), 1, 8, .nilFunc⟩ := ⟨Try.underlying61, by kernel_rfl⟩
theorem ti62 : TyOk Try.prog 62 ⟨(Go.TypeDesc.func #[52] #[4] Bool.false), 1, 8, .nilFunc⟩ := ⟨Try.underlying62, by kernel_rfl⟩
theorem ti63 : TyOk Try.prog 63 ⟨(Go.TypeDesc.func #[22, 3, 23, 27] #[4] Bool.false), 1, 8, .nilFunc⟩ := ⟨Try.underlying63, by kernel_rfl⟩
theorem ti64 : TyOk Try.prog 64 ⟨(Go.TypeDesc.func #[23, 41] #[23] Bool.false), 1, 8, .nilFunc⟩ := ⟨Try.underlying64, by kernel_rfl⟩
theorem ti66 : TyOk Try.prog 66 ⟨(Go.TypeDesc.func #[23, 2, 27] #[23, 23, 4] Bool.false), 1, 8, .nilFunc⟩ := ⟨Try.underlying66, by kernel_rfl⟩
theorem ti67 : TyOk Try.prog 67 ⟨(Go.TypeDesc.func #[22, 23, 27] #[4] Bool.false), 1, 8, .nilFunc⟩ := ⟨Try.underlying67, by kernel_rfl⟩
theorem ti69 : TyOk Try.prog 69 ⟨(Go.TypeDesc.func #[23, 2, 27] #[23, 4] Bool.false), 1, 8, .nilFunc⟩ := ⟨Try.underlying69, by kernel_rfl⟩
theorem ti70 : TyOk Try.prog 70 ⟨(Go.TypeDesc.func #[] #[22] Bool.false), 1, 8, .nilFunc⟩ := ⟨Try.underlying70, by kernel_rfl⟩
theorem ti71 : TyOk Try.prog 71 ⟨(Go.TypeDesc.func #[42, 72] #[3] Bool.false), 1, 8, .nilFunc⟩ := ⟨Try.underlying71, by kernel_rfl⟩
theorem ti72 : TyOk Try.prog 72 ⟨(Go.TypeDesc.func #[30] #[4] Bool.false), 1, 8, .nilFunc⟩ := ⟨Try.underlying72, by kernel_rfl⟩
theorem ti73 : TyOk Try.prog 73 ⟨(Go.TypeDesc.func #[] #[52] Bool.false), 1, 8, .nilFunc⟩ := ⟨Try.underlying73, by kernel_rfl⟩
theorem ti74 : TyOk Try.prog 74 ⟨(Go.TypeDesc.func #[56, 56] #[3] Bool.false), 1, 8, .nilFunc⟩ := ⟨Try.underlying74, by kernel_rfl⟩
theorem ti75 : TyOk Try.prog 75 ⟨(Go.TypeDesc.func #[58, 76] #[] Bool.false), 1, 8, .nilFunc⟩ := ⟨Try.underlying75, by kernel_rfl⟩
theorem ti76 : TyOk Try.prog 76 ⟨(Go.TypeDesc.func #[3, 3] #[3] Bool.false), 1, 8, .nilFunc⟩ := ⟨Try.underlying76, by kernel_rfl⟩
theorem ti77 : TyOk Try.prog 77 ⟨(Go.TypeDesc.func #[58, 78] #[58] Bool.false), 1, 8, .nilFunc⟩ := ⟨Try.underlying77, by kernel_rfl⟩
theorem ti78 : TyOk Try.prog 78 ⟨(Go.TypeDesc.func #[3] #[4] Bool.false), 1, 8, .nilFunc⟩ := ⟨Try.underlying78, by kernel_rfl⟩
theorem ti79 : TyOk Try.prog 79 ⟨(Go.TypeDesc.func #[2] #[4] Bool.false), 1, 8, .nilFunc⟩ := ⟨Try.underlying79, by kernel_rfl⟩
theorem ti80 : TyOk Try.prog 80 ⟨(Go.TypeDesc.func #[2, 2] #[4] Bool.false), 1, 8, .nilFunc⟩ := ⟨Try.underlying80, by kernel_rfl⟩
theorem ti81 : TyOk Try.prog 81 ⟨(Go.TypeDesc.pointer 83), 1, 8, (.pointer none)⟩ := ⟨Try.underlying81, by kernel_rfl⟩
theorem ti82 : TyOk Try.prog 82 ⟨(Go.TypeDesc.struct #[{ name := "sum", type := 2, offset := 0, embedded := Bool.false, tag := "", pkgPath := "variorum/leaf", byteOffset := 0 }, { name := "ok", type := 4, offset := 1, embedded := Bool.false, tag := "", pkgPath := "variorum/leaf", byteOffset := 8 }]), 2, 16, (.agg #[(.int .i64 0), (.bool false)])⟩ := ⟨Try.underlying82, by kernel_rfl⟩
theorem ti83 : TyOk Try.prog 83 ⟨(Go.TypeDesc.struct #[{ name := "sum", type := 2, offset := 0, embedded := Bool.false, tag := "", pkgPath := "variorum/leaf", byteOffset := 0 }, { name := "ok", type := 4, offset := 1, embedded := Bool.false, tag := "", pkgPath := "variorum/leaf", byteOffset := 8 }]), 2, 16, (.agg #[(.int .i64 0), (.bool false)])⟩ := ⟨Try.underlying83, by kernel_rfl⟩
theorem ti84 : TyOk Try.prog 84 ⟨(Go.TypeDesc.func #[2, 2] #[] Bool.false), 1, 8, .nilFunc⟩ := ⟨Try.underlying84, by kernel_rfl⟩
theorem ti85 : TyOk Try.prog 85 ⟨(Go.TypeDesc.func #[58] #[3] Bool.true), 1, 8, .nilFunc⟩ := ⟨Try.underlying85, by kernel_rfl⟩
theorem ti86 : TyOk Try.prog 86 ⟨(Go.TypeDesc.func #[58, 3, 76] #[] Bool.false), 1, 8, .nilFunc⟩ := ⟨Try.underlying86, by kernel_rfl⟩
theorem ti87 : TyOk Try.prog 87 ⟨(Go.TypeDesc.func #[58, 78] #[3] Bool.false), 1, 8, .nilFunc⟩ := ⟨Try.underlying87, by kernel_rfl⟩
theorem ti88 : TyOk Try.prog 88 ⟨(Go.TypeDesc.func #[] #[2] Bool.false), 1, 8, .nilFunc⟩ := ⟨Try.underlying88, by kernel_rfl⟩
theorem ti89 : TyOk Try.prog 89 ⟨(Go.TypeDesc.func #[58, 3, 3, 76] #[] Bool.false), 1, 8, .nilFunc⟩ := ⟨Try.underlying89, by kernel_rfl⟩
theorem ti90 : TyOk Try.prog 90 ⟨(Go.TypeDesc.func #[58, 3, 3, 3, 76] #[] Bool.false), 1, 8, .nilFunc⟩ := ⟨Try.underlying90, by kernel_rfl⟩
theorem ti91 : TyOk Try.prog 91 ⟨(Go.TypeDesc.int Go.IntKind.u64), 1, 8, (.int .u64 0)⟩ := ⟨Try.underlying91, by kernel_rfl⟩
theorem ti92 : TyOk Try.prog 92 ⟨(Go.TypeDesc.func #[] #[9] Bool.false), 1, 8, .nilFunc⟩ := ⟨Try.underlying92, by kernel_rfl⟩
theorem ti93 : TyOk Try.prog 93 ⟨(Go.TypeDesc.struct #[{ name := "_interface", type := 17, offset := 0, embedded := Bool.false, tag := "", pkgPath := "runtime", byteOffset := 0 }, { name := "concrete", type := 17, offset := 1, embedded := Bool.false, tag := "", pkgPath := "runtime", byteOffset := 8 }, { name := "asserted", type := 17, offset := 2, embedded := Bool.false, tag := "", pkgPath := "runtime", byteOffset := 16 }, { name := "missingMethod", type := 9, offset := 3, embedded := Bool.false, tag := "", pkgPath := "runtime", byteOffset := 24 }]), 4, 40, (.agg #[(.pointer none), (.pointer none), (.pointer none), (.string ⟨#[]⟩)])⟩ := ⟨Try.underlying93, by kernel_rfl⟩
theorem ti94 : TyOk Try.prog 94 ⟨(Go.TypeDesc.struct #[{ name := "_interface", type := 17, offset := 0, embedded := Bool.false, tag := "", pkgPath := "runtime", byteOffset := 0 }, { name := "concrete", type := 17, offset := 1, embedded := Bool.false, tag := "", pkgPath := "runtime", byteOffset := 8 }, { name := "asserted", type := 17, offset := 2, embedded := Bool.false, tag := "", pkgPath := "runtime", byteOffset := 16 }, { name := "missingMethod", type := 9, offset := 3, embedded := Bool.false, tag := "", pkgPath := "runtime", byteOffset := 24 }]), 4, 40, (.agg #[(.pointer none), (.pointer none), (.pointer none), (.string ⟨#[]⟩)])⟩ := ⟨Try.underlying94, by kernel_rfl⟩
theorem ti95 : TyOk Try.prog 95 ⟨(Go.TypeDesc.array 0 16), 0, 0, (.agg #[])⟩ := ⟨Try.underlying95, by kernel_rfl⟩
theorem ti96 : TyOk Try.prog 96 ⟨(Go.TypeDesc.struct #[{ name := "_", type := 95, offset := 0, embedded := Bool.false, tag := "", pkgPath := "runtime", byteOffset := 0 }]), 0, 0, (.agg #[])⟩ := ⟨Try.underlying96, by kernel_rfl⟩
theorem ti97 : TyOk Try.prog 97 ⟨(Go.TypeDesc.struct #[{ name := "_", type := 95, offset := 0, embedded := Bool.false, tag := "", pkgPath := "runtime", byteOffset := 0 }]), 0, 0, (.agg #[])⟩ := ⟨Try.underlying97, by kernel_rfl⟩
theorem ti98 : TyOk Try.prog 98 ⟨(Go.TypeDesc.func #[] #[3] Bool.false), 1, 8, .nilFunc⟩ := ⟨Try.underlying98, by kernel_rfl⟩
theorem ti99 : TyOk Try.prog 99 ⟨(Go.TypeDesc.int Go.IntKind.u32), 1, 4, (.int .u32 0)⟩ := ⟨Try.underlying99, by kernel_rfl⟩
theorem ti100 : TyOk Try.prog 100 ⟨(Go.TypeDesc.int Go.IntKind.u8), 1, 1, (.int .u8 0)⟩ := ⟨Try.underlying100, by kernel_rfl⟩
theorem ti101 : TyOk Try.prog 101 ⟨(Go.TypeDesc.int Go.IntKind.u8), 1, 1, (.int .u8 0)⟩ := ⟨Try.underlying101, by kernel_rfl⟩
theorem ti102 : TyOk Try.prog 102 ⟨(Go.TypeDesc.func #[110, 110] #[4] Bool.false), 1, 8, .nilFunc⟩ := ⟨Try.underlying102, by kernel_rfl⟩
theorem ti103 : TyOk Try.prog 103 ⟨(Go.TypeDesc.pointer 5), 1, 8, (.pointer none)⟩ := ⟨Try.underlying103, by kernel_rfl⟩
theorem ti104 : TyOk Try.prog 104 ⟨(Go.TypeDesc.int Go.IntKind.i32), 1, 4, (.int .i32 0)⟩ := ⟨Try.underlying104, by kernel_rfl⟩
theorem ti105 : TyOk Try.prog 105 ⟨(Go.TypeDesc.int Go.IntKind.i32), 1, 4, (.int .i32 0)⟩ := ⟨Try.underlying105, by kernel_rfl⟩
theorem ti106 : TyOk Try.prog 106 ⟨(Go.TypeDesc.struct #[{ name := "Size_", type := 12, offset := 0, embedded := Bool.false, tag := "", pkgPath := "", byteOffset := 0 }, { name := "PtrBytes", type := 12, offset := 1, embedded := Bool.false, tag := "", pkgPath := "", byteOffset := 8 }, { name := "Hash", type := 99, offset := 2, embedded := Bool.false, tag := "", pkgPath := "", byteOffset := 16 }, { name := "TFlag", type := 100, offset := 3, embedded := Bool.false, tag := "", pkgPath := "", byteOffset := 20 }, { name := "Align_", type := 5, offset := 4, embedded := Bool.false, tag := "", pkgPath := "", byteOffset := 21 }, { name := "FieldAlign_", type := 5, offset := 5, embedded := Bool.false, tag := "", pkgPath := "", byteOffset := 22 }, { name := "Kind_", type := 101, offset := 6, embedded := Bool.false, tag := "", pkgPath := "", byteOffset := 23 }, { name := "Equal", type := 102, offset := 7, embedded := Bool.false, tag := "", pkgPath := "", byteOffset := 24 }, { name := "GCData", type := 103, offset := 8, embedded := Bool.false, tag := "", pkgPath := "", byteOffset := 32 }, { name := "Str", type := 104, offset := 9, embedded := Bool.false, tag := "", pkgPath := "", byteOffset := 40 }, { name := "PtrToThis", type := 105, offset := 10, embedded := Bool.false, tag := "", pkgPath := "", byteOffset := 44 }]), 11, 48, (.agg #[(.int .u64 0), (.int .u64 0), (.int .u32 0), (.int .u8 0), (.int .u8 0), (.int .u8 0), (.int .u8 0), .nilFunc, (.pointer none), (.int .i32 0), (.int .i32 0)])⟩ := ⟨Try.underlying106, by kernel_rfl⟩
theorem ti107 : TyOk Try.prog 107 ⟨(Go.TypeDesc.struct #[{ name := "Size_", type := 12, offset := 0, embedded := Bool.false, tag := "", pkgPath := "", byteOffset := 0 }, { name := "PtrBytes", type := 12, offset := 1, embedded := Bool.false, tag := "", pkgPath := "", byteOffset := 8 }, { name := "Hash", type := 99, offset := 2, embedded := Bool.false, tag := "", pkgPath := "", byteOffset := 16 }, { name := "TFlag", type := 100, offset := 3, embedded := Bool.false, tag := "", pkgPath := "", byteOffset := 20 }, { name := "Align_", type := 5, offset := 4, embedded := Bool.false, tag := "", pkgPath := "", byteOffset := 21 }, { name := "FieldAlign_", type := 5, offset := 5, embedded := Bool.false, tag := "", pkgPath := "", byteOffset := 22 }, { name := "Kind_", type := 101, offset := 6, embedded := Bool.false, tag := "", pkgPath := "", byteOffset := 23 }, { name := "Equal", type := 102, offset := 7, embedded := Bool.false, tag := "", pkgPath := "", byteOffset := 24 }, { name := "GCData", type := 103, offset := 8, embedded := Bool.false, tag := "", pkgPath := "", byteOffset := 32 }, { name := "Str", type := 104, offset := 9, embedded := Bool.false, tag := "", pkgPath := "", byteOffset := 40 }, { name := "PtrToThis", type := 105, offset := 10, embedded := Bool.false, tag := "", pkgPath := "", byteOffset := 44 }]), 11, 48, (.agg #[(.int .u64 0), (.int .u64 0), (.int .u32 0), (.int .u8 0), (.int .u8 0), (.int .u8 0), (.int .u8 0), .nilFunc, (.pointer none), (.int .i32 0), (.int .i32 0)])⟩ := ⟨Try.underlying107, by kernel_rfl⟩
theorem ti108 : TyOk Try.prog 108 ⟨(Go.TypeDesc.struct #[{ name := "Kind", type := 3, offset := 0, embedded := Bool.false, tag := "", pkgPath := "", byteOffset := 0 }, { name := "Text", type := 9, offset := 1, embedded := Bool.false, tag := "", pkgPath := "", byteOffset := 8 }, { name := "At", type := 3, offset := 2, embedded := Bool.false, tag := "", pkgPath := "", byteOffset := 24 }]), 3, 32, (.agg #[(.int .i64 0), (.string ⟨#[]⟩), (.int .i64 0)])⟩ := ⟨Try.underlying108, by kernel_rfl⟩
theorem ti109 : TyOk Try.prog 109 ⟨(Go.TypeDesc.struct #[{ name := "Kind", type := 3, offset := 0, embedded := Bool.false, tag := "", pkgPath := "", byteOffset := 0 }, { name := "Text", type := 9, offset := 1, embedded := Bool.false, tag := "", pkgPath := "", byteOffset := 8 }, { name := "At", type := 3, offset := 2, embedded := Bool.false, tag := "", pkgPath := "", byteOffset := 24 }]), 3, 32, (.agg #[(.int .i64 0), (.string ⟨#[]⟩), (.int .i64 0)])⟩ := ⟨Try.underlying109, by kernel_rfl⟩
def tts : List (Nat × TyI) := [
(1, ⟨(Go.TypeDesc.func #[] #[] Bool.false), 1, 8, .nilFunc⟩),
(2, ⟨(Go.TypeDesc.int Go.IntKind.i64), 1, 8, (.int .i64 0)⟩),
(3, ⟨(Go.TypeDesc.int Go.IntKind.i64), 1, 8, (.int .i64 0)⟩),
(4, ⟨Go.TypeDesc.bool, 1, 1, (.bool false)⟩),
(5, ⟨(Go.TypeDesc.int Go.IntKind.u8), 1, 1, (.int .u8 0)⟩),
(6, ⟨(Go.TypeDesc.int Go.IntKind.u8), 1, 1, (.int .u8 0)⟩),
(7, ⟨(Go.TypeDesc.struct #[{ name := "x", type := 2, offset := 0, embedded := Bool.false, tag := "", pkgPath := "runtime", byteOffset := 0 }, { name := "y", type := 3, offset := 1, embedded := Bool.false, tag := "", pkgPath := "runtime", byteOffset := 8 }, { name := "signed", type := 4, offset := 2, embedded := Bool.false, tag := "", pkgPath := "runtime", byteOffset := 16 }, { name := "code", type := 6, offset := 3, embedded := Bool.false, tag := "", pkgPath := "runtime", byteOffset := 17 }]), 4, 24, (.agg #[(.int .i64 0), (.int .i64 0), (.bool false), (.int .u8 0)])⟩),
(8, ⟨(Go.TypeDesc.struct #[{ name := "x", type := 2, offset := 0, embedded := Bool.false, tag := "", pkgPath := "runtime", byteOffset := 0 }, { name := "y", type := 3, offset := 1, embedded := Bool.false, tag := "", pkgPath := "runtime", byteOffset := 8 }, { name := "signed", type := 4, offset := 2, embedded := Bool.false, tag := "", pkgPath := "runtime", byteOffset := 16 }, { name := "code", type := 6, offset := 3, embedded := Bool.false, tag := "", pkgPath := "runtime", byteOffset := 17 }]), 4, 24, (.agg #[(.int .i64 0), (.int .i64 0), (.bool false), (.int .u8 0)])⟩),
(9, ⟨Go.TypeDesc.string, 1, 16, (.string ⟨#[]⟩)⟩),
(10, ⟨Go.TypeDesc.string, 1, 16, (.string ⟨#[]⟩)⟩),
(11, ⟨Go.TypeDesc.string, 1, 16, (.string ⟨#[]⟩)⟩),
(12, ⟨(Go.TypeDesc.int Go.IntKind.u64), 1, 8, (.int .u64 0)⟩),
(13, ⟨(Go.TypeDesc.struct #[{ name := "msg", type := 9, offset := 0, embedded := Bool.false, tag := "", pkgPath := "runtime", byteOffset := 0 }, { name := "addr", type := 12, offset := 1, embedded := Bool.false, tag := "", pkgPath := "runtime", byteOffset := 16 }]), 2, 24, (.agg #[(.string ⟨#[]⟩), (.int .u64 0)])⟩),
(14, ⟨(Go.TypeDesc.struct #[{ name := "msg", type := 9, offset := 0, embedded := Bool.false, tag := "", pkgPath := "runtime", byteOffset := 0 }, { name := "addr", type := 12, offset := 1, embedded := Bool.false, tag := "", pkgPath := "runtime", byteOffset := 16 }]), 2, 24, (.agg #[(.string ⟨#[]⟩), (.int .u64 0)])⟩),
(15, ⟨(Go.TypeDesc.pointer 94), 1, 8, (.pointer none)⟩),
(16, ⟨(Go.TypeDesc.pointer 97), 1, 8, (.pointer none)⟩),
(17, ⟨(Go.TypeDesc.pointer 107), 1, 8, (.pointer none)⟩),
(18, ⟨(Go.TypeDesc.struct #[{ name := "typ", type := 17, offset := 0, embedded := Bool.false, tag := "", pkgPath := "internal/runtime/maps", byteOffset := 0 }]), 1, 8, (.agg #[(.pointer none)])⟩),
(19, ⟨(Go.TypeDesc.struct #[{ name := "typ", type := 17, offset := 0, embedded := Bool.false, tag := "", pkgPath := "internal/runtime/maps", byteOffset := 0 }]), 1, 8, (.agg #[(.pointer none)])⟩),
(20, ⟨(Go.TypeDesc.interface #[]), 1, 16, .nilIface⟩),
(21, ⟨(Go.TypeDesc.int Go.IntKind.i32), 1, 4, (.int .i32 0)⟩),
(22, ⟨(Go.TypeDesc.slice 41), 1, 24, (.slice none 0 0)⟩),
(23, ⟨(Go.TypeDesc.array 10 2), 10, 80, (.agg #[(.int .i64 0), (.int .i64 0), (.int .i64 0), (.int .i64 0), (.int .i64 0), (.int .i64 0), (.int .i64 0), (.int .i64 0), (.int .i64 0), (.int .i64 0)])⟩),
(24, ⟨(Go.TypeDesc.struct #[{ name := "From", type := 3, offset := 0, embedded := Bool.false, tag := "", pkgPath := "", byteOffset := 0 }, { name := "Many", type := 3, offset := 1, embedded := Bool.false, tag := "", pkgPath := "", byteOffset := 8 }, { name := "Left", type := 23, offset := 2, embedded := Bool.false, tag := "", pkgPath := "", byteOffset := 16 }]), 12, 96, (.agg #[(.int .i64 0), (.int .i64 0), (.int .i64 0), (.int .i64 0), (.int .i64 0), (.int .i64 0), (.int .i64 0), (.int .i64 0), (.int .i64 0), (.int .i64 0), (.int .i64 0), (.int .i64 0)])⟩),
(25, ⟨(Go.TypeDesc.struct #[{ name := "From", type := 3, offset := 0, embedded := Bool.false, tag := "", pkgPath := "", byteOffset := 0 }, { name := "Many", type := 3, offset := 1, embedded := Bool.false, tag := "", pkgPath := "", byteOffset := 8 }, { name := "Left", type := 23, offset := 2, embedded := Bool.false, tag := "", pkgPath := "", byteOffset := 16 }]), 12, 96, (.agg #[(.int .i64 0), (.int .i64 0), (.int .i64 0), (.int .i64 0), (.int .i64 0), (.int .i64 0), (.int .i64 0), (.int .i64 0), (.int .i64 0), (.int .i64 0), (.int .i64 0), (.int .i64 0)])⟩),
(26, ⟨(Go.TypeDesc.struct #[{ name := "Height", type := 2, offset := 0, embedded := Bool.false, tag := "", pkgPath := "", byteOffset := 0 }, { name := "Rule", type := 2, offset := 1, embedded := Bool.false, tag := "", pkgPath := "", byteOffset := 8 }, { name := "Unit", type := 2, offset := 2, embedded := Bool.false, tag := "", pkgPath := "", byteOffset := 16 }]), 3, 24, (.agg #[(.int .i64 0), (.int .i64 0), (.int .i64 0)])⟩),
(27, ⟨(Go.TypeDesc.struct #[{ name := "Height", type := 2, offset := 0, embedded := Bool.false, tag := "", pkgPath := "", byteOffset := 0 }, { name := "Rule", type := 2, offset := 1, embedded := Bool.false, tag := "", pkgPath := "", byteOffset := 8 }, { name := "Unit", type := 2, offset := 2, embedded := Bool.false, tag := "", pkgPath := "", byteOffset := 16 }]), 3, 24, (.agg #[(.int .i64 0), (.int .i64 0), (.int .i64 0)])⟩),
(28, ⟨(Go.TypeDesc.func #[] #[4] Bool.false), 1, 8, .nilFunc⟩),
(29, ⟨(Go.TypeDesc.struct #[{ name := "From", type := 3, offset := 0, embedded := Bool.false, tag := "", pkgPath := "", byteOffset := 0 }, { name := "Many", type := 3, offset := 1, embedded := Bool.false, tag := "", pkgPath := "", byteOffset := 8 }, { name := "Shown", type := 23, offset := 2, embedded := Bool.false, tag := "", pkgPath := "", byteOffset := 16 }, { name := "Left", type := 23, offset := 12, embedded := Bool.false, tag := "", pkgPath := "", byteOffset := 96 }]), 22, 176, (.agg #[(.int .i64 0), (.int .i64 0), (.int .i64 0), (.int .i64 0), (.int .i64 0), (.int .i64 0), (.int .i64 0), (.int .i64 0), (.int .i64 0), (.int .i64 0), (.int .i64 0), (.int .i64 0), (.int .i64 0), (.int .i64 0), (.int .i64 0), (.int .i64 0), (.int .i64 0), (.int .i64 0), (.int .i64 0), (.int .i64 0), (.int .i64 0), (.int .i64 0)])⟩),
(30, ⟨(Go.TypeDesc.struct #[{ name := "From", type := 3, offset := 0, embedded := Bool.false, tag := "", pkgPath := "", byteOffset := 0 }, { name := "Many", type := 3, offset := 1, embedded := Bool.false, tag := "", pkgPath := "", byteOffset := 8 }, { name := "Shown", type := 23, offset := 2, embedded := Bool.false, tag := "", pkgPath := "", byteOffset := 16 }, { name := "Left", type := 23, offset := 12, embedded := Bool.false, tag := "", pkgPath := "", byteOffset := 96 }]), 22, 176, (.agg #[(.int .i64 0), (.int .i64 0), (.int .i64 0), (.int .i64 0), (.int .i64 0), (.int .i64 0), (.int .i64 0), (.int .i64 0), (.int .i64 0), (.int .i64 0), (.int .i64 0), (.int .i64 0), (.int .i64 0), (.int .i64 0), (.int .i64 0), (.int .i64 0), (.int .i64 0), (.int .i64 0), (.int .i64 0), (.int .i64 0), (.int .i64 0), (.int .i64 0)])⟩),
(32, ⟨(Go.TypeDesc.func #[22, 3, 23, 27] #[30, 4] Bool.false), 1, 8, .nilFunc⟩),
(33, ⟨(Go.TypeDesc.func #[22, 27] #[4] Bool.false), 1, 8, .nilFunc⟩),
(34, ⟨(Go.TypeDesc.func #[22, 3, 3, 23, 27] #[2] Bool.false), 1, 8, .nilFunc⟩),
(35, ⟨(Go.TypeDesc.func #[22, 3, 23, 27] #[3] Bool.false), 1, 8, .nilFunc⟩),
(36, ⟨(Go.TypeDesc.func #[22, 25, 27] #[4] Bool.false), 1, 8, .nilFunc⟩),
(37, ⟨(Go.TypeDesc.func #[22, 23] #[23] Bool.false), 1, 8, .nilFunc⟩),
(38, ⟨(Go.TypeDesc.func #[22] #[2] Bool.false), 1, 8, .nilFunc⟩),
(39, ⟨(Go.TypeDesc.func #[23, 2] #[2] Bool.false), 1, 8, .nilFunc⟩),
(40, ⟨(Go.TypeDesc.struct #[{ name := "Main", type := 2, offset := 0, embedded := Bool.false, tag := "", pkgPath := "", byteOffset := 0 }, { name := "Notes", type := 23, offset := 1, embedded := Bool.false, tag := "", pkgPath := "", byteOffset := 8 }]), 11, 88, (.agg #[(.int .i64 0), (.int .i64 0), (.int .i64 0), (.int .i64 0), (.int .i64 0), (.int .i64 0), (.int .i64 0), (.int .i64 0), (.int .i64 0), (.int .i64 0), (.int .i64 0)])⟩),
(41, ⟨(Go.TypeDesc.struct #[{ name := "Main", type := 2, offset := 0, embedded := Bool.false, tag := "", pkgPath := "", byteOffset := 0 }, { name := "Notes", type := 23, offset := 1, embedded := Bool.false, tag := "", pkgPath := "", byteOffset := 8 }]), 11, 88, (.agg #[(.int .i64 0), (.int .i64 0), (.int .i64 0), (.int .i64 0), (.int .i64 0), (.int .i64 0), (.int .i64 0), (.int .i64 0), (.int .i64 0), (.int .i64 0), (.int .i64 0)])⟩),
(42, ⟨(Go.TypeDesc.slice 30), 1, 24, (.slice none 0 0)⟩),
(43, ⟨(Go.TypeDesc.int Go.IntKind.i64), 1, 8, (.int .i64 0)⟩),
(44, ⟨(Go.TypeDesc.struct #[{ name := "Code", type := 43, offset := 0, embedded := Bool.false, tag := "", pkgPath := "", byteOffset := 0 }, { name := "At", type := 3, offset := 1, embedded := Bool.false, tag := "", pkgPath := "", byteOffset := 8 }]), 2, 16, (.agg #[(.int .i64 0), (.int .i64 0)])⟩),
(45, ⟨(Go.TypeDesc.struct #[{ name := "Code", type := 43, offset := 0, embedded := Bool.false, tag := "", pkgPath := "", byteOffset := 0 }, { name := "At", type := 3, offset := 1, embedded := Bool.false, tag := "", pkgPath := "", byteOffset := 8 }]), 2, 16, (.agg #[(.int .i64 0), (.int .i64 0)])⟩),
(47, ⟨(Go.TypeDesc.func #[22, 27] #[42, 45] Bool.false), 1, 8, .nilFunc⟩),
(48, ⟨(Go.TypeDesc.func #[42, 42] #[4] Bool.false), 1, 8, .nilFunc⟩),
(49, ⟨(Go.TypeDesc.func #[42, 3] #[3] Bool.false), 1, 8, .nilFunc⟩),
(50, ⟨(Go.TypeDesc.func #[22, 27, 3] #[4] Bool.false), 1, 8, .nilFunc⟩),
(51, ⟨(Go.TypeDesc.func #[3, 2, 27] #[4] Bool.false), 1, 8, .nilFunc⟩),
(52, ⟨(Go.TypeDesc.slice 56), 1, 24, (.slice none 0 0)⟩),
(53, ⟨(Go.TypeDesc.func #[56, 56] #[4] Bool.false), 1, 8, .nilFunc⟩),
(54, ⟨(Go.TypeDesc.slice 109), 1, 24, (.slice none 0 0)⟩),
(55, ⟨(Go.TypeDesc.struct #[{ name := "Series", type := 3, offset := 0, embedded := Bool.false, tag := "", pkgPath := "", byteOffset := 0 }, { name := "From", type := 3, offset := 1, embedded := Bool.false, tag := "", pkgPath := "", byteOffset := 8 }, { name := "To", type := 3, offset := 2, embedded := Bool.false, tag := "", pkgPath := "", byteOffset := 16 }, { name := "Text", type := 54, offset := 3, embedded := Bool.false, tag := "", pkgPath := "", byteOffset := 24 }, { name := "At", type := 3, offset := 4, embedded := Bool.false, tag := "", pkgPath := "", byteOffset := 48 }]), 5, 56, (.agg #[(.int .i64 0), (.int .i64 0), (.int .i64 0), (.slice none 0 0), (.int .i64 0)])⟩),
(56, ⟨(Go.TypeDesc.struct #[{ name := "Series", type := 3, offset := 0, embedded := Bool.false, tag := "", pkgPath := "", byteOffset := 0 }, { name := "From", type := 3, offset := 1, embedded := Bool.false, tag := "", pkgPath := "", byteOffset := 8 }, { name := "To", type := 3, offset := 2, embedded := Bool.false, tag := "", pkgPath := "", byteOffset := 16 }, { name := "Text", type := 54, offset := 3, embedded := Bool.false, tag := "", pkgPath := "", byteOffset := 24 }, { name := "At", type := 3, offset := 4, embedded := Bool.false, tag := "", pkgPath := "", byteOffset := 48 }]), 5, 56, (.agg #[(.int .i64 0), (.int .i64 0), (.int .i64 0), (.slice none 0 0), (.int .i64 0)])⟩),
(57, ⟨(Go.TypeDesc.func #[58, 58] #[4] Bool.false), 1, 8, .nilFunc⟩),
(58, ⟨(Go.TypeDesc.slice 3), 1, 24, (.slice none 0 0)⟩),
(59, ⟨(Go.TypeDesc.func #[52] #[58] Bool.false), 1, 8, .nilFunc⟩),
(60, ⟨(Go.TypeDesc.func #[52, 3] #[58] Bool.false), 1, 8, .nilFunc⟩),
(61, ⟨(Go.TypeDesc.func #[52, 3] #[4] Bool.false), 1, 8, .nilFunc⟩),
(62, ⟨(Go.TypeDesc.func #[52] #[4] Bool.false), 1, 8, .nilFunc⟩),
(63, ⟨(Go.TypeDesc.func #[22, 3, 23, 27] #[4] Bool.false), 1, 8, .nilFunc⟩),
(64, ⟨(Go.TypeDesc.func #[23, 41] #[23] Bool.false), 1, 8, .nilFunc⟩),
(66, ⟨(Go.TypeDesc.func #[23, 2, 27] #[23, 23, 4] Bool.false), 1, 8, .nilFunc⟩),
(67, ⟨(Go.TypeDesc.func #[22, 23, 27] #[4] Bool.false), 1, 8, .nilFunc⟩),
(69, ⟨(Go.TypeDesc.func #[23, 2, 27] #[23, 4] Bool.false), 1, 8, .nilFunc⟩),
(70, ⟨(Go.TypeDesc.func #[] #[22] Bool.false), 1, 8, .nilFunc⟩),
(71, ⟨(Go.TypeDesc.func #[42, 72] #[3] Bool.false), 1, 8, .nilFunc⟩),
(72, ⟨(Go.TypeDesc.func #[30] #[4] Bool.false), 1, 8, .nilFunc⟩),
(73, ⟨(Go.TypeDesc.func #[] #[52] Bool.false), 1, 8, .nilFunc⟩),
(74, ⟨(Go.TypeDesc.func #[56, 56] #[3] Bool.false), 1, 8, .nilFunc⟩),
(75, ⟨(Go.TypeDesc.func #[58, 76] #[] Bool.false), 1, 8, .nilFunc⟩),
(76, ⟨(Go.TypeDesc.func #[3, 3] #[3] Bool.false), 1, 8, .nilFunc⟩),
(77, ⟨(Go.TypeDesc.func #[58, 78] #[58] Bool.false), 1, 8, .nilFunc⟩),
(78, ⟨(Go.TypeDesc.func #[3] #[4] Bool.false), 1, 8, .nilFunc⟩),
(79, ⟨(Go.TypeDesc.func #[2] #[4] Bool.false), 1, 8, .nilFunc⟩),
(80, ⟨(Go.TypeDesc.func #[2, 2] #[4] Bool.false), 1, 8, .nilFunc⟩),
(81, ⟨(Go.TypeDesc.pointer 83), 1, 8, (.pointer none)⟩),
(82, ⟨(Go.TypeDesc.struct #[{ name := "sum", type := 2, offset := 0, embedded := Bool.false, tag := "", pkgPath := "variorum/leaf", byteOffset := 0 }, { name := "ok", type := 4, offset := 1, embedded := Bool.false, tag := "", pkgPath := "variorum/leaf", byteOffset := 8 }]), 2, 16, (.agg #[(.int .i64 0), (.bool false)])⟩),
(83, ⟨(Go.TypeDesc.struct #[{ name := "sum", type := 2, offset := 0, embedded := Bool.false, tag := "", pkgPath := "variorum/leaf", byteOffset := 0 }, { name := "ok", type := 4, offset := 1, embedded := Bool.false, tag := "", pkgPath := "variorum/leaf", byteOffset := 8 }]), 2, 16, (.agg #[(.int .i64 0), (.bool false)])⟩),
(84, ⟨(Go.TypeDesc.func #[2, 2] #[] Bool.false), 1, 8, .nilFunc⟩),
(85, ⟨(Go.TypeDesc.func #[58] #[3] Bool.true), 1, 8, .nilFunc⟩),
(86, ⟨(Go.TypeDesc.func #[58, 3, 76] #[] Bool.false), 1, 8, .nilFunc⟩),
(87, ⟨(Go.TypeDesc.func #[58, 78] #[3] Bool.false), 1, 8, .nilFunc⟩),
(88, ⟨(Go.TypeDesc.func #[] #[2] Bool.false), 1, 8, .nilFunc⟩),
(89, ⟨(Go.TypeDesc.func #[58, 3, 3, 76] #[] Bool.false), 1, 8, .nilFunc⟩),
(90, ⟨(Go.TypeDesc.func #[58, 3, 3, 3, 76] #[] Bool.false), 1, 8, .nilFunc⟩),
(91, ⟨(Go.TypeDesc.int Go.IntKind.u64), 1, 8, (.int .u64 0)⟩),
(92, ⟨(Go.TypeDesc.func #[] #[9] Bool.false), 1, 8, .nilFunc⟩),
(93, ⟨(Go.TypeDesc.struct #[{ name := "_interface", type := 17, offset := 0, embedded := Bool.false, tag := "", pkgPath := "runtime", byteOffset := 0 }, { name := "concrete", type := 17, offset := 1, embedded := Bool.false, tag := "", pkgPath := "runtime", byteOffset := 8 }, { name := "asserted", type := 17, offset := 2, embedded := Bool.false, tag := "", pkgPath := "runtime", byteOffset := 16 }, { name := "missingMethod", type := 9, offset := 3, embedded := Bool.false, tag := "", pkgPath := "runtime", byteOffset := 24 }]), 4, 40, (.agg #[(.pointer none), (.pointer none), (.pointer none), (.string ⟨#[]⟩)])⟩),
(94, ⟨(Go.TypeDesc.struct #[{ name := "_interface", type := 17, offset := 0, embedded := Bool.false, tag := "", pkgPath := "runtime", byteOffset := 0 }, { name := "concrete", type := 17, offset := 1, embedded := Bool.false, tag := "", pkgPath := "runtime", byteOffset := 8 }, { name := "asserted", type := 17, offset := 2, embedded := Bool.false, tag := "", pkgPath := "runtime", byteOffset := 16 }, { name := "missingMethod", type := 9, offset := 3, embedded := Bool.false, tag := "", pkgPath := "runtime", byteOffset := 24 }]), 4, 40, (.agg #[(.pointer none), (.pointer none), (.pointer none), (.string ⟨#[]⟩)])⟩),
(95, ⟨(Go.TypeDesc.array 0 16), 0, 0, (.agg #[])⟩),
(96, ⟨(Go.TypeDesc.struct #[{ name := "_", type := 95, offset := 0, embedded := Bool.false, tag := "", pkgPath := "runtime", byteOffset := 0 }]), 0, 0, (.agg #[])⟩),
(97, ⟨(Go.TypeDesc.struct #[{ name := "_", type := 95, offset := 0, embedded := Bool.false, tag := "", pkgPath := "runtime", byteOffset := 0 }]), 0, 0, (.agg #[])⟩),
(98, ⟨(Go.TypeDesc.func #[] #[3] Bool.false), 1, 8, .nilFunc⟩),
(99, ⟨(Go.TypeDesc.int Go.IntKind.u32), 1, 4, (.int .u32 0)⟩),
(100, ⟨(Go.TypeDesc.int Go.IntKind.u8), 1, 1, (.int .u8 0)⟩),
(101, ⟨(Go.TypeDesc.int Go.IntKind.u8), 1, 1, (.int .u8 0)⟩),
(102, ⟨(Go.TypeDesc.func #[110, 110] #[4] Bool.false), 1, 8, .nilFunc⟩),
(103, ⟨(Go.TypeDesc.pointer 5), 1, 8, (.pointer none)⟩),
(104, ⟨(Go.TypeDesc.int Go.IntKind.i32), 1, 4, (.int .i32 0)⟩),
(105, ⟨(Go.TypeDesc.int Go.IntKind.i32), 1, 4, (.int .i32 0)⟩),
(106, ⟨(Go.TypeDesc.struct #[{ name := "Size_", type := 12, offset := 0, embedded := Bool.false, tag := "", pkgPath := "", byteOffset := 0 }, { name := "PtrBytes", type := 12, offset := 1, embedded := Bool.false, tag := "", pkgPath := "", byteOffset := 8 }, { name := "Hash", type := 99, offset := 2, embedded := Bool.false, tag := "", pkgPath := "", byteOffset := 16 }, { name := "TFlag", type := 100, offset := 3, embedded := Bool.false, tag := "", pkgPath := "", byteOffset := 20 }, { name := "Align_", type := 5, offset := 4, embedded := Bool.false, tag := "", pkgPath := "", byteOffset := 21 }, { name := "FieldAlign_", type := 5, offset := 5, embedded := Bool.false, tag := "", pkgPath := "", byteOffset := 22 }, { name := "Kind_", type := 101, offset := 6, embedded := Bool.false, tag := "", pkgPath := "", byteOffset := 23 }, { name := "Equal", type := 102, offset := 7, embedded := Bool.false, tag := "", pkgPath := "", byteOffset := 24 }, { name := "GCData", type := 103, offset := 8, embedded := Bool.false, tag := "", pkgPath := "", byteOffset := 32 }, { name := "Str", type := 104, offset := 9, embedded := Bool.false, tag := "", pkgPath := "", byteOffset := 40 }, { name := "PtrToThis", type := 105, offset := 10, embedded := Bool.false, tag := "", pkgPath := "", byteOffset := 44 }]), 11, 48, (.agg #[(.int .u64 0), (.int .u64 0), (.int .u32 0), (.int .u8 0), (.int .u8 0), (.int .u8 0), (.int .u8 0), .nilFunc, (.pointer none), (.int .i32 0), (.int .i32 0)])⟩),
(107, ⟨(Go.TypeDesc.struct #[{ name := "Size_", type := 12, offset := 0, embedded := Bool.false, tag := "", pkgPath := "", byteOffset := 0 }, { name := "PtrBytes", type := 12, offset := 1, embedded := Bool.false, tag := "", pkgPath := "", byteOffset := 8 }, { name := "Hash", type := 99, offset := 2, embedded := Bool.false, tag := "", pkgPath := "", byteOffset := 16 }, { name := "TFlag", type := 100, offset := 3, embedded := Bool.false, tag := "", pkgPath := "", byteOffset := 20 }, { name := "Align_", type := 5, offset := 4, embedded := Bool.false, tag := "", pkgPath := "", byteOffset := 21 }, { name := "FieldAlign_", type := 5, offset := 5, embedded := Bool.false, tag := "", pkgPath := "", byteOffset := 22 }, { name := "Kind_", type := 101, offset := 6, embedded := Bool.false, tag := "", pkgPath := "", byteOffset := 23 }, { name := "Equal", type := 102, offset := 7, embedded := Bool.false, tag := "", pkgPath := "", byteOffset := 24 }, { name := "GCData", type := 103, offset := 8, embedded := Bool.false, tag := "", pkgPath := "", byteOffset := 32 }, { name := "Str", type := 104, offset := 9, embedded := Bool.false, tag := "", pkgPath := "", byteOffset := 40 }, { name := "PtrToThis", type := 105, offset := 10, embedded := Bool.false, tag := "", pkgPath := "", byteOffset := 44 }]), 11, 48, (.agg #[(.int .u64 0), (.int .u64 0), (.int .u32 0), (.int .u8 0), (.int .u8 0), (.int .u8 0), (.int .u8 0), .nilFunc, (.pointer none), (.int .i32 0), (.int .i32 0)])⟩),
(108, ⟨(Go.TypeDesc.struct #[{ name := "Kind", type := 3, offset := 0, embedded := Bool.false, tag := "", pkgPath := "", byteOffset := 0 }, { name := "Text", type := 9, offset := 1, embedded := Bool.false, tag := "", pkgPath := "", byteOffset := 8 }, { name := "At", type := 3, offset := 2, embedded := Bool.false, tag := "", pkgPath := "", byteOffset := 24 }]), 3, 32, (.agg #[(.int .i64 0), (.string ⟨#[]⟩), (.int .i64 0)])⟩),
(109, ⟨(Go.TypeDesc.struct #[{ name := "Kind", type := 3, offset := 0, embedded := Bool.false, tag := "", pkgPath := "", byteOffset := 0 }, { name := "Text", type := 9, offset := 1, embedded := Bool.false, tag := "", pkgPath := "", byteOffset := 8 }, { name := "At", type := 3, offset := 2, embedded := Bool.false, tag := "", pkgPath := "", byteOffset := 24 }]), 3, 32, (.agg #[(.int .i64 0), (.string ⟨#[]⟩), (.int .i64 0)])⟩)]
abbrev tt : TypeId → Option TyI := lkT tts
theorem tt_ok : TOk Try.prog tt := TOk.of tts (fun p hp => by
  simp only [tts, List.mem_cons, List.mem_nil_iff, or_false] at hp
  rcases hp with rfl | rfl | rfl | rfl | rfl | rfl | rfl | rfl | rfl | rfl | rfl | rfl | rfl | rfl | rfl | rfl | rfl | rfl | rfl | rfl | rfl | rfl | rfl | rfl | rfl | rfl | rfl | rfl | rfl | rfl | rfl | rfl | rfl | rfl | rfl | rfl | rfl | rfl | rfl | rfl | rfl | rfl | rfl | rfl | rfl | rfl | rfl | rfl | rfl | rfl | rfl | rfl | rfl | rfl | rfl | rfl | rfl | rfl | rfl | rfl | rfl | rfl | rfl | rfl | rfl | rfl | rfl | rfl | rfl | rfl | rfl | rfl | rfl | rfl | rfl | rfl | rfl | rfl | rfl | rfl | rfl | rfl | rfl | rfl | rfl | rfl | rfl | rfl | rfl | rfl | rfl | rfl | rfl | rfl | rfl | rfl | rfl | rfl | rfl | rfl | rfl | rfl | rfl | rfl | rfl
  · exact ti1
  · exact ti2
  · exact ti3
  · exact ti4
  · exact ti5
  · exact ti6
  · exact ti7
  · exact ti8
  · exact ti9
  · exact ti10
  · exact ti11
  · exact ti12
  · exact ti13
  · exact ti14
  · exact ti15
  · exact ti16
  · exact ti17
  · exact ti18
  · exact ti19
  · exact ti20
  · exact ti21
  · exact ti22
  · exact ti23
  · exact ti24
  · exact ti25
  · exact ti26
  · exact ti27
  · exact ti28
  · exact ti29
  · exact ti30
  · exact ti32
  · exact ti33
  · exact ti34
  · exact ti35
  · exact ti36
  · exact ti37
  · exact ti38
  · exact ti39
  · exact ti40
  · exact ti41
  · exact ti42
  · exact ti43
  · exact ti44
  · exact ti45
  · exact ti47
  · exact ti48
  · exact ti49
  · exact ti50
  · exact ti51
  · exact ti52
  · exact ti53
  · exact ti54
  · exact ti55
  · exact ti56
  · exact ti57
  · exact ti58
  · exact ti59
  · exact ti60
  · exact ti61
  · exact ti62
  · exact ti63
  · exact ti64
  · exact ti66
  · exact ti67
  · exact ti69
  · exact ti70
  · exact ti71
  · exact ti72
  · exact ti73
  · exact ti74
  · exact ti75
  · exact ti76
  · exact ti77
  · exact ti78
  · exact ti79
  · exact ti80
  · exact ti81
  · exact ti82
  · exact ti83
  · exact ti84
  · exact ti85
  · exact ti86
  · exact ti87
  · exact ti88
  · exact ti89
  · exact ti90
  · exact ti91
  · exact ti92
  · exact ti93
  · exact ti94
  · exact ti95
  · exact ti96
  · exact ti97
  · exact ti98
  · exact ti99
  · exact ti100
  · exact ti101
  · exact ti102
  · exact ti103
  · exact ti104
  · exact ti105
  · exact ti106
  · exact ti107
  · exact ti108
  · exact ti109
)
end Go.Proofs.Ytgjamldcglebjaa
