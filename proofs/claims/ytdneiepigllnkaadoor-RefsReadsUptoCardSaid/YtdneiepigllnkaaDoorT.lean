/- What is known of the program's types: written by a program of this session's. -/
import Derived.Test.YtdneiepigllnkaaDoorD11
import Derived.Test.YtdneiepigllnkaaDoorProg
import Derived.KernelRfl
namespace Go.Proofs.YtdneiepigllnkaaDoor
open Go Go.Proofs.YtdneiepigllnkaaDoor.DL
set_option maxRecDepth 100000
theorem ti1 : TyOk Tryd.prog 1 ⟨(Go.TypeDesc.func #[] #[] Bool.false), 1, 8, .nilFunc⟩ := ⟨Tryd.underlying1, by kernel_rfl⟩
theorem ti2 : TyOk Tryd.prog 2 ⟨(Go.TypeDesc.int Go.IntKind.i64), 1, 8, (.int .i64 0)⟩ := ⟨Tryd.underlying2, by kernel_rfl⟩
theorem ti3 : TyOk Tryd.prog 3 ⟨(Go.TypeDesc.int Go.IntKind.i64), 1, 8, (.int .i64 0)⟩ := ⟨Tryd.underlying3, by kernel_rfl⟩
theorem ti4 : TyOk Tryd.prog 4 ⟨Go.TypeDesc.bool, 1, 1, (.bool false)⟩ := ⟨Tryd.underlying4, by kernel_rfl⟩
theorem ti5 : TyOk Tryd.prog 5 ⟨(Go.TypeDesc.int Go.IntKind.u8), 1, 1, (.int .u8 0)⟩ := ⟨Tryd.underlying5, by kernel_rfl⟩
theorem ti6 : TyOk Tryd.prog 6 ⟨(Go.TypeDesc.int Go.IntKind.u8), 1, 1, (.int .u8 0)⟩ := ⟨Tryd.underlying6, by kernel_rfl⟩
theorem ti7 : TyOk Tryd.prog 7 ⟨(Go.TypeDesc.struct #[{ name := "x", type := 2, offset := 0, embedded := Bool.false, tag := "", pkgPath := "runtime", byteOffset := 0 }, { name := "y", type := 3, offset := 1, embedded := Bool.false, tag := "", pkgPath := "runtime", byteOffset := 8 }, { name := "signed", type := 4, offset := 2, embedded := Bool.false, tag := "", pkgPath := "runtime", byteOffset := 16 }, { name := "code", type := 6, offset := 3, embedded := Bool.false, tag := "", pkgPath := "runtime", byteOffset := 17 }]), 4, 24, (.agg #[(.int .i64 0), (.int .i64 0), (.bool false), (.int .u8 0)])⟩ := ⟨Tryd.underlying7, by kernel_rfl⟩
theorem ti8 : TyOk Tryd.prog 8 ⟨(Go.TypeDesc.struct #[{ name := "x", type := 2, offset := 0, embedded := Bool.false, tag := "", pkgPath := "runtime", byteOffset := 0 }, { name := "y", type := 3, offset := 1, embedded := Bool.false, tag := "", pkgPath := "runtime", byteOffset := 8 }, { name := "signed", type := 4, offset := 2, embedded := Bool.false, tag := "", pkgPath := "runtime", byteOffset := 16 }, { name := "code", type := 6, offset := 3, embedded := Bool.false, tag := "", pkgPath := "runtime", byteOffset := 17 }]), 4, 24, (.agg #[(.int .i64 0), (.int .i64 0), (.bool false), (.int .u8 0)])⟩ := ⟨Tryd.underlying8, by kernel_rfl⟩
theorem ti9 : TyOk Tryd.prog 9 ⟨Go.TypeDesc.string, 1, 16, (.string ⟨#[]⟩)⟩ := ⟨Tryd.underlying9, by kernel_rfl⟩
theorem ti10 : TyOk Tryd.prog 10 ⟨Go.TypeDesc.string, 1, 16, (.string ⟨#[]⟩)⟩ := ⟨Tryd.underlying10, by kernel_rfl⟩
theorem ti11 : TyOk Tryd.prog 11 ⟨Go.TypeDesc.string, 1, 16, (.string ⟨#[]⟩)⟩ := ⟨Tryd.underlying11, by kernel_rfl⟩
theorem ti12 : TyOk Tryd.prog 12 ⟨(Go.TypeDesc.int Go.IntKind.u64), 1, 8, (.int .u64 0)⟩ := ⟨Tryd.underlying12, by kernel_rfl⟩
theorem ti13 : TyOk Tryd.prog 13 ⟨(Go.TypeDesc.struct #[{ name := "msg", type := 9, offset := 0, embedded := Bool.false, tag := "", pkgPath := "runtime", byteOffset := 0 }, { name := "addr", type := 12, offset := 1, embedded := Bool.false, tag := "", pkgPath := "runtime", byteOffset := 16 }]), 2, 24, (.agg #[(.string ⟨#[]⟩), (.int .u64 0)])⟩ := ⟨Tryd.underlying13, by kernel_rfl⟩
theorem ti14 : TyOk Tryd.prog 14 ⟨(Go.TypeDesc.struct #[{ name := "msg", type := 9, offset := 0, embedded := Bool.false, tag := "", pkgPath := "runtime", byteOffset := 0 }, { name := "addr", type := 12, offset := 1, embedded := Bool.false, tag := "", pkgPath := "runtime", byteOffset := 16 }]), 2, 24, (.agg #[(.string ⟨#[]⟩), (.int .u64 0)])⟩ := ⟨Tryd.underlying14, by kernel_rfl⟩
theorem ti15 : TyOk Tryd.prog 15 ⟨(Go.TypeDesc.pointer 128), 1, 8, (.pointer none)⟩ := ⟨Tryd.underlying15, by kernel_rfl⟩
theorem ti16 : TyOk Tryd.prog 16 ⟨(Go.TypeDesc.pointer 131), 1, 8, (.pointer none)⟩ := ⟨Tryd.underlying16, by kernel_rfl⟩
theorem ti17 : TyOk Tryd.prog 17 ⟨(Go.TypeDesc.pointer 139), 1, 8, (.pointer none)⟩ := ⟨Tryd.underlying17, by kernel_rfl⟩
theorem ti18 : TyOk Tryd.prog 18 ⟨(Go.TypeDesc.struct #[{ name := "typ", type := 17, offset := 0, embedded := Bool.false, tag := "", pkgPath := "internal/runtime/maps", byteOffset := 0 }]), 1, 8, (.agg #[(.pointer none)])⟩ := ⟨Tryd.underlying18, by kernel_rfl⟩
theorem ti19 : TyOk Tryd.prog 19 ⟨(Go.TypeDesc.struct #[{ name := "typ", type := 17, offset := 0, embedded := Bool.false, tag := "", pkgPath := "internal/runtime/maps", byteOffset := 0 }]), 1, 8, (.agg #[(.pointer none)])⟩ := ⟨Tryd.underlying19, by kernel_rfl⟩
theorem ti20 : TyOk Tryd.prog 20 ⟨(Go.TypeDesc.interface #[]), 1, 16, .nilIface⟩ := ⟨Tryd.underlying20, by kernel_rfl⟩
theorem ti21 : TyOk Tryd.prog 21 ⟨(Go.TypeDesc.int Go.IntKind.i32), 1, 4, (.int .i32 0)⟩ := ⟨Tryd.underlying21, by kernel_rfl⟩
theorem ti22 : TyOk Tryd.prog 22 ⟨(Go.TypeDesc.slice 9), 1, 24, (.slice none 0 0)⟩ := ⟨Tryd.underlying22, by kernel_rfl⟩
theorem ti23 : TyOk Tryd.prog 23 ⟨(Go.TypeDesc.struct #[{ name := "From", type := 3, offset := 0, embedded := Bool.false, tag := "", pkgPath := "", byteOffset := 0 }, { name := "To", type := 3, offset := 1, embedded := Bool.false, tag := "", pkgPath := "", byteOffset := 8 }]), 2, 16, (.agg #[(.int .i64 0), (.int .i64 0)])⟩ := ⟨Tryd.underlying23, by kernel_rfl⟩
theorem ti24 : TyOk Tryd.prog 24 ⟨(Go.TypeDesc.struct #[{ name := "From", type := 3, offset := 0, embedded := Bool.false, tag := "", pkgPath := "", byteOffset := 0 }, { name := "To", type := 3, offset := 1, embedded := Bool.false, tag := "", pkgPath := "", byteOffset := 8 }]), 2, 16, (.agg #[(.int .i64 0), (.int .i64 0)])⟩ := ⟨Tryd.underlying24, by kernel_rfl⟩
theorem ti25 : TyOk Tryd.prog 25 ⟨(Go.TypeDesc.func #[] #[4] Bool.false), 1, 8, .nilFunc⟩ := ⟨Tryd.underlying25, by kernel_rfl⟩
theorem ti27 : TyOk Tryd.prog 27 ⟨(Go.TypeDesc.func #[22, 3] #[3, 3] Bool.false), 1, 8, .nilFunc⟩ := ⟨Tryd.underlying27, by kernel_rfl⟩
theorem ti28 : TyOk Tryd.prog 28 ⟨(Go.TypeDesc.func #[9] #[9] Bool.false), 1, 8, .nilFunc⟩ := ⟨Tryd.underlying28, by kernel_rfl⟩
theorem ti29 : TyOk Tryd.prog 29 ⟨(Go.TypeDesc.func #[22, 3] #[9] Bool.false), 1, 8, .nilFunc⟩ := ⟨Tryd.underlying29, by kernel_rfl⟩
theorem ti30 : TyOk Tryd.prog 30 ⟨(Go.TypeDesc.func #[22] #[9] Bool.false), 1, 8, .nilFunc⟩ := ⟨Tryd.underlying30, by kernel_rfl⟩
theorem ti31 : TyOk Tryd.prog 31 ⟨(Go.TypeDesc.func #[22, 3, 3] #[9] Bool.false), 1, 8, .nilFunc⟩ := ⟨Tryd.underlying31, by kernel_rfl⟩
theorem ti32 : TyOk Tryd.prog 32 ⟨(Go.TypeDesc.func #[22, 24] #[4] Bool.false), 1, 8, .nilFunc⟩ := ⟨Tryd.underlying32, by kernel_rfl⟩
theorem ti33 : TyOk Tryd.prog 33 ⟨(Go.TypeDesc.func #[9] #[4] Bool.false), 1, 8, .nilFunc⟩ := ⟨Tryd.underlying33, by kernel_rfl⟩
theorem ti34 : TyOk Tryd.prog 34 ⟨(Go.TypeDesc.func #[22] #[4] Bool.false), 1, 8, .nilFunc⟩ := ⟨Tryd.underlying34, by kernel_rfl⟩
theorem ti35 : TyOk Tryd.prog 35 ⟨(Go.TypeDesc.func #[22, 9, 3] #[4] Bool.false), 1, 8, .nilFunc⟩ := ⟨Tryd.underlying35, by kernel_rfl⟩
theorem ti36 : TyOk Tryd.prog 36 ⟨(Go.TypeDesc.slice 38), 1, 24, (.slice none 0 0)⟩ := ⟨Tryd.underlying36, by kernel_rfl⟩
theorem ti37 : TyOk Tryd.prog 37 ⟨(Go.TypeDesc.struct #[{ name := "Page", type := 3, offset := 0, embedded := Bool.false, tag := "", pkgPath := "", byteOffset := 0 }, { name := "Line", type := 3, offset := 1, embedded := Bool.false, tag := "", pkgPath := "", byteOffset := 8 }, { name := "Sub", type := 3, offset := 2, embedded := Bool.false, tag := "", pkgPath := "", byteOffset := 16 }]), 3, 24, (.agg #[(.int .i64 0), (.int .i64 0), (.int .i64 0)])⟩ := ⟨Tryd.underlying37, by kernel_rfl⟩
theorem ti38 : TyOk Tryd.prog 38 ⟨(Go.TypeDesc.struct #[{ name := "Page", type := 3, offset := 0, embedded := Bool.false, tag := "", pkgPath := "", byteOffset := 0 }, { name := "Line", type := 3, offset := 1, embedded := Bool.false, tag := "", pkgPath := "", byteOffset := 8 }, { name := "Sub", type := 3, offset := 2, embedded := Bool.false, tag := "", pkgPath := "", byteOffset := 16 }]), 3, 24, (.agg #[(.int .i64 0), (.int .i64 0), (.int .i64 0)])⟩ := ⟨Tryd.underlying38, by kernel_rfl⟩
theorem ti39 : TyOk Tryd.prog 39 ⟨(Go.TypeDesc.func #[38, 38, 38, 4] #[9] Bool.false), 1, 8, .nilFunc⟩ := ⟨Tryd.underlying39, by kernel_rfl⟩
theorem ti40 : TyOk Tryd.prog 40 ⟨(Go.TypeDesc.func #[22, 22] #[4] Bool.false), 1, 8, .nilFunc⟩ := ⟨Tryd.underlying40, by kernel_rfl⟩
theorem ti41 : TyOk Tryd.prog 41 ⟨(Go.TypeDesc.func #[36] #[22] Bool.false), 1, 8, .nilFunc⟩ := ⟨Tryd.underlying41, by kernel_rfl⟩
theorem ti42 : TyOk Tryd.prog 42 ⟨(Go.TypeDesc.func #[38] #[4] Bool.false), 1, 8, .nilFunc⟩ := ⟨Tryd.underlying42, by kernel_rfl⟩
theorem ti43 : TyOk Tryd.prog 43 ⟨(Go.TypeDesc.func #[36, 4] #[4] Bool.false), 1, 8, .nilFunc⟩ := ⟨Tryd.underlying43, by kernel_rfl⟩
theorem ti45 : TyOk Tryd.prog 45 ⟨(Go.TypeDesc.func #[9, 38, 4] #[38, 38, 4] Bool.false), 1, 8, .nilFunc⟩ := ⟨Tryd.underlying45, by kernel_rfl⟩
theorem ti46 : TyOk Tryd.prog 46 ⟨(Go.TypeDesc.func #[9, 38, 4] #[4] Bool.false), 1, 8, .nilFunc⟩ := ⟨Tryd.underlying46, by kernel_rfl⟩
theorem ti47 : TyOk Tryd.prog 47 ⟨(Go.TypeDesc.array 3 38), 9, 72, (.agg #[(.int .i64 0), (.int .i64 0), (.int .i64 0), (.int .i64 0), (.int .i64 0), (.int .i64 0), (.int .i64 0), (.int .i64 0), (.int .i64 0)])⟩ := ⟨Tryd.underlying47, by kernel_rfl⟩
theorem ti48 : TyOk Tryd.prog 48 ⟨(Go.TypeDesc.func #[47, 4, 9] #[4] Bool.false), 1, 8, .nilFunc⟩ := ⟨Tryd.underlying48, by kernel_rfl⟩
theorem ti49 : TyOk Tryd.prog 49 ⟨(Go.TypeDesc.func #[36] #[4] Bool.false), 1, 8, .nilFunc⟩ := ⟨Tryd.underlying49, by kernel_rfl⟩
theorem ti50 : TyOk Tryd.prog 50 ⟨(Go.TypeDesc.func #[47] #[4] Bool.false), 1, 8, .nilFunc⟩ := ⟨Tryd.underlying50, by kernel_rfl⟩
theorem ti51 : TyOk Tryd.prog 51 ⟨(Go.TypeDesc.func #[9, 9, 9] #[9] Bool.false), 1, 8, .nilFunc⟩ := ⟨Tryd.underlying51, by kernel_rfl⟩
theorem ti52 : TyOk Tryd.prog 52 ⟨(Go.TypeDesc.func #[3] #[9] Bool.false), 1, 8, .nilFunc⟩ := ⟨Tryd.underlying52, by kernel_rfl⟩
theorem ti53 : TyOk Tryd.prog 53 ⟨(Go.TypeDesc.func #[3, 3] #[38] Bool.false), 1, 8, .nilFunc⟩ := ⟨Tryd.underlying53, by kernel_rfl⟩
theorem ti54 : TyOk Tryd.prog 54 ⟨(Go.TypeDesc.func #[38] #[9] Bool.false), 1, 8, .nilFunc⟩ := ⟨Tryd.underlying54, by kernel_rfl⟩
theorem ti55 : TyOk Tryd.prog 55 ⟨(Go.TypeDesc.func #[38, 38] #[9] Bool.false), 1, 8, .nilFunc⟩ := ⟨Tryd.underlying55, by kernel_rfl⟩
theorem ti56 : TyOk Tryd.prog 56 ⟨(Go.TypeDesc.array 3 3), 3, 24, (.agg #[(.int .i64 0), (.int .i64 0), (.int .i64 0)])⟩ := ⟨Tryd.underlying56, by kernel_rfl⟩
theorem ti58 : TyOk Tryd.prog 58 ⟨(Go.TypeDesc.func #[9, 9] #[9, 9, 4] Bool.false), 1, 8, .nilFunc⟩ := ⟨Tryd.underlying58, by kernel_rfl⟩
theorem ti60 : TyOk Tryd.prog 60 ⟨(Go.TypeDesc.func #[9, 38] #[38, 4] Bool.false), 1, 8, .nilFunc⟩ := ⟨Tryd.underlying60, by kernel_rfl⟩
theorem ti61 : TyOk Tryd.prog 61 ⟨(Go.TypeDesc.slice 3), 1, 24, (.slice none 0 0)⟩ := ⟨Tryd.underlying61, by kernel_rfl⟩
theorem ti62 : TyOk Tryd.prog 62 ⟨(Go.TypeDesc.func #[9] #[61] Bool.false), 1, 8, .nilFunc⟩ := ⟨Tryd.underlying62, by kernel_rfl⟩
theorem ti63 : TyOk Tryd.prog 63 ⟨(Go.TypeDesc.func #[9, 9, 9, 3] #[9] Bool.false), 1, 8, .nilFunc⟩ := ⟨Tryd.underlying63, by kernel_rfl⟩
theorem ti64 : TyOk Tryd.prog 64 ⟨(Go.TypeDesc.func #[65] #[9] Bool.false), 1, 8, .nilFunc⟩ := ⟨Tryd.underlying64, by kernel_rfl⟩
theorem ti65 : TyOk Tryd.prog 65 ⟨(Go.TypeDesc.int Go.IntKind.u64), 1, 8, (.int .u64 0)⟩ := ⟨Tryd.underlying65, by kernel_rfl⟩
theorem ti66 : TyOk Tryd.prog 66 ⟨(Go.TypeDesc.func #[22, 9] #[9] Bool.false), 1, 8, .nilFunc⟩ := ⟨Tryd.underlying66, by kernel_rfl⟩
theorem ti68 : TyOk Tryd.prog 68 ⟨(Go.TypeDesc.func #[9] #[3, 4] Bool.false), 1, 8, .nilFunc⟩ := ⟨Tryd.underlying68, by kernel_rfl⟩
theorem ti69 : TyOk Tryd.prog 69 ⟨(Go.TypeDesc.func #[9, 9] #[3] Bool.false), 1, 8, .nilFunc⟩ := ⟨Tryd.underlying69, by kernel_rfl⟩
theorem ti70 : TyOk Tryd.prog 70 ⟨(Go.TypeDesc.pointer 73), 1, 8, (.pointer none)⟩ := ⟨Tryd.underlying70, by kernel_rfl⟩
theorem ti71 : TyOk Tryd.prog 71 ⟨(Go.TypeDesc.slice 5), 1, 24, (.slice none 0 0)⟩ := ⟨Tryd.underlying71, by kernel_rfl⟩
theorem ti72 : TyOk Tryd.prog 72 ⟨(Go.TypeDesc.struct #[{ name := "addr", type := 70, offset := 0, embedded := Bool.false, tag := "", pkgPath := "strings", byteOffset := 0 }, { name := "buf", type := 71, offset := 1, embedded := Bool.false, tag := "", pkgPath := "strings", byteOffset := 8 }]), 2, 32, (.agg #[(.pointer none), (.slice none 0 0)])⟩ := ⟨Tryd.underlying72, by kernel_rfl⟩
theorem ti73 : TyOk Tryd.prog 73 ⟨(Go.TypeDesc.struct #[{ name := "addr", type := 70, offset := 0, embedded := Bool.false, tag := "", pkgPath := "strings", byteOffset := 0 }, { name := "buf", type := 71, offset := 1, embedded := Bool.false, tag := "", pkgPath := "strings", byteOffset := 8 }]), 2, 32, (.agg #[(.pointer none), (.slice none 0 0)])⟩ := ⟨Tryd.underlying73, by kernel_rfl⟩
theorem ti74 : TyOk Tryd.prog 74 ⟨(Go.TypeDesc.func #[3] #[] Bool.false), 1, 8, .nilFunc⟩ := ⟨Tryd.underlying74, by kernel_rfl⟩
theorem ti75 : TyOk Tryd.prog 75 ⟨(Go.TypeDesc.interface #[("Error", 81)]), 1, 16, .nilIface⟩ := ⟨Tryd.underlying75, by kernel_rfl⟩
theorem ti76 : TyOk Tryd.prog 76 ⟨(Go.TypeDesc.interface #[("Error", 81)]), 1, 16, .nilIface⟩ := ⟨Tryd.underlying76, by kernel_rfl⟩
theorem ti78 : TyOk Tryd.prog 78 ⟨(Go.TypeDesc.func #[9] #[3, 76] Bool.false), 1, 8, .nilFunc⟩ := ⟨Tryd.underlying78, by kernel_rfl⟩
theorem ti80 : TyOk Tryd.prog 80 ⟨(Go.TypeDesc.func #[9] #[21, 3] Bool.false), 1, 8, .nilFunc⟩ := ⟨Tryd.underlying80, by kernel_rfl⟩
theorem ti81 : TyOk Tryd.prog 81 ⟨(Go.TypeDesc.func #[] #[9] Bool.false), 1, 8, .nilFunc⟩ := ⟨Tryd.underlying81, by kernel_rfl⟩
theorem ti82 : TyOk Tryd.prog 82 ⟨(Go.TypeDesc.func #[2, 3] #[9] Bool.false), 1, 8, .nilFunc⟩ := ⟨Tryd.underlying82, by kernel_rfl⟩
theorem ti83 : TyOk Tryd.prog 83 ⟨(Go.TypeDesc.func #[9] #[3] Bool.false), 1, 8, .nilFunc⟩ := ⟨Tryd.underlying83, by kernel_rfl⟩
theorem ti84 : TyOk Tryd.prog 84 ⟨(Go.TypeDesc.func #[9, 5] #[3] Bool.false), 1, 8, .nilFunc⟩ := ⟨Tryd.underlying84, by kernel_rfl⟩
theorem ti85 : TyOk Tryd.prog 85 ⟨(Go.TypeDesc.pointer 5), 1, 8, (.pointer none)⟩ := ⟨Tryd.underlying85, by kernel_rfl⟩
theorem ti86 : TyOk Tryd.prog 86 ⟨(Go.TypeDesc.array 24 5), 24, 24, (.agg #[(.int .u8 0), (.int .u8 0), (.int .u8 0), (.int .u8 0), (.int .u8 0), (.int .u8 0), (.int .u8 0), (.int .u8 0), (.int .u8 0), (.int .u8 0), (.int .u8 0), (.int .u8 0), (.int .u8 0), (.int .u8 0), (.int .u8 0), (.int .u8 0), (.int .u8 0), (.int .u8 0), (.int .u8 0), (.int .u8 0), (.int .u8 0), (.int .u8 0), (.int .u8 0), (.int .u8 0)])⟩ := ⟨Tryd.underlying86, by kernel_rfl⟩
theorem ti87 : TyOk Tryd.prog 87 ⟨(Go.TypeDesc.func #[65] #[3] Bool.false), 1, 8, .nilFunc⟩ := ⟨Tryd.underlying87, by kernel_rfl⟩
theorem ti88 : TyOk Tryd.prog 88 ⟨(Go.TypeDesc.func #[71, 65] #[] Bool.false), 1, 8, .nilFunc⟩ := ⟨Tryd.underlying88, by kernel_rfl⟩
theorem ti90 : TyOk Tryd.prog 90 ⟨(Go.TypeDesc.func #[71, 65, 3, 4, 4] #[71, 9] Bool.false), 1, 8, .nilFunc⟩ := ⟨Tryd.underlying90, by kernel_rfl⟩
theorem ti91 : TyOk Tryd.prog 91 ⟨(Go.TypeDesc.func #[3] #[3] Bool.false), 1, 8, .nilFunc⟩ := ⟨Tryd.underlying91, by kernel_rfl⟩
theorem ti92 : TyOk Tryd.prog 92 ⟨(Go.TypeDesc.int Go.IntKind.u64), 1, 8, (.int .u64 0)⟩ := ⟨Tryd.underlying92, by kernel_rfl⟩
theorem ti93 : TyOk Tryd.prog 93 ⟨(Go.TypeDesc.func #[9, 9, 3, 3, 76] #[76] Bool.false), 1, 8, .nilFunc⟩ := ⟨Tryd.underlying93, by kernel_rfl⟩
theorem ti95 : TyOk Tryd.prog 95 ⟨(Go.TypeDesc.func #[94] #[94] Bool.false), 1, 8, .nilFunc⟩ := ⟨Tryd.underlying95, by kernel_rfl⟩
theorem ti96 : TyOk Tryd.prog 96 ⟨(Go.TypeDesc.func #[3] #[71] Bool.false), 1, 8, .nilFunc⟩ := ⟨Tryd.underlying96, by kernel_rfl⟩
theorem ti98 : TyOk Tryd.prog 98 ⟨(Go.TypeDesc.struct #[{ name := "lo", type := 5, offset := 0, embedded := Bool.false, tag := "", pkgPath := "unicode/utf8", byteOffset := 0 }, { name := "hi", type := 5, offset := 1, embedded := Bool.false, tag := "", pkgPath := "unicode/utf8", byteOffset := 1 }]), 2, 2, (.agg #[(.int .u8 0), (.int .u8 0)])⟩ := ⟨Tryd.underlying98, by kernel_rfl⟩
theorem ti99 : TyOk Tryd.prog 99 ⟨(Go.TypeDesc.struct #[{ name := "lo", type := 5, offset := 0, embedded := Bool.false, tag := "", pkgPath := "unicode/utf8", byteOffset := 0 }, { name := "hi", type := 5, offset := 1, embedded := Bool.false, tag := "", pkgPath := "unicode/utf8", byteOffset := 1 }]), 2, 2, (.agg #[(.int .u8 0), (.int .u8 0)])⟩ := ⟨Tryd.underlying99, by kernel_rfl⟩
theorem ti100 : TyOk Tryd.prog 100 ⟨(Go.TypeDesc.array 16 99), 32, 32, (.agg #[(.int .u8 0), (.int .u8 0), (.int .u8 0), (.int .u8 0), (.int .u8 0), (.int .u8 0), (.int .u8 0), (.int .u8 0), (.int .u8 0), (.int .u8 0), (.int .u8 0), (.int .u8 0), (.int .u8 0), (.int .u8 0), (.int .u8 0), (.int .u8 0), (.int .u8 0), (.int .u8 0), (.int .u8 0), (.int .u8 0), (.int .u8 0), (.int .u8 0), (.int .u8 0), (.int .u8 0), (.int .u8 0), (.int .u8 0), (.int .u8 0), (.int .u8 0), (.int .u8 0), (.int .u8 0), (.int .u8 0), (.int .u8 0)])⟩ := ⟨Tryd.underlying100, by kernel_rfl⟩
theorem ti101 : TyOk Tryd.prog 101 ⟨(Go.TypeDesc.func #[4] #[3] Bool.false), 1, 8, .nilFunc⟩ := ⟨Tryd.underlying101, by kernel_rfl⟩
theorem ti102 : TyOk Tryd.prog 102 ⟨(Go.TypeDesc.array 20 65), 20, 160, (.agg #[(.int .u64 0), (.int .u64 0), (.int .u64 0), (.int .u64 0), (.int .u64 0), (.int .u64 0), (.int .u64 0), (.int .u64 0), (.int .u64 0), (.int .u64 0), (.int .u64 0), (.int .u64 0), (.int .u64 0), (.int .u64 0), (.int .u64 0), (.int .u64 0), (.int .u64 0), (.int .u64 0), (.int .u64 0), (.int .u64 0)])⟩ := ⟨Tryd.underlying102, by kernel_rfl⟩
theorem ti103 : TyOk Tryd.prog 103 ⟨(Go.TypeDesc.int Go.IntKind.u32), 1, 4, (.int .u32 0)⟩ := ⟨Tryd.underlying103, by kernel_rfl⟩
theorem ti104 : TyOk Tryd.prog 104 ⟨(Go.TypeDesc.array 65 5), 65, 65, (.agg #[(.int .u8 0), (.int .u8 0), (.int .u8 0), (.int .u8 0), (.int .u8 0), (.int .u8 0), (.int .u8 0), (.int .u8 0), (.int .u8 0), (.int .u8 0), (.int .u8 0), (.int .u8 0), (.int .u8 0), (.int .u8 0), (.int .u8 0), (.int .u8 0), (.int .u8 0), (.int .u8 0), (.int .u8 0), (.int .u8 0), (.int .u8 0), (.int .u8 0), (.int .u8 0), (.int .u8 0), (.int .u8 0), (.int .u8 0), (.int .u8 0), (.int .u8 0), (.int .u8 0), (.int .u8 0), (.int .u8 0), (.int .u8 0), (.int .u8 0), (.int .u8 0), (.int .u8 0), (.int .u8 0), (.int .u8 0), (.int .u8 0), (.int .u8 0), (.int .u8 0), (.int .u8 0), (.int .u8 0), (.int .u8 0), (.int .u8 0), (.int .u8 0), (.int .u8 0), (.int .u8 0), (.int .u8 0), (.int .u8 0), (.int .u8 0), (.int .u8 0), (.int .u8 0), (.int .u8 0), (.int .u8 0), (.int .u8 0), (.int .u8 0), (.int .u8 0), (.int .u8 0), (.int .u8 0), (.int .u8 0), (.int .u8 0), (.int .u8 0), (.int .u8 0), (.int .u8 0), (.int .u8 0)])⟩ := ⟨Tryd.underlying104, by kernel_rfl⟩
theorem ti105 : TyOk Tryd.prog 105 ⟨(Go.TypeDesc.func #[3] #[4] Bool.false), 1, 8, .nilFunc⟩ := ⟨Tryd.underlying105, by kernel_rfl⟩
theorem ti106 : TyOk Tryd.prog 106 ⟨(Go.TypeDesc.func #[92] #[3] Bool.false), 1, 8, .nilFunc⟩ := ⟨Tryd.underlying106, by kernel_rfl⟩
theorem ti108 : TyOk Tryd.prog 108 ⟨(Go.TypeDesc.func #[9] #[103, 103] Bool.false), 1, 8, .nilFunc⟩ := ⟨Tryd.underlying108, by kernel_rfl⟩
theorem ti109 : TyOk Tryd.prog 109 ⟨(Go.TypeDesc.int Go.IntKind.i64), 1, 8, (.int .i64 0)⟩ := ⟨Tryd.underlying109, by kernel_rfl⟩
theorem ti111 : TyOk Tryd.prog 111 ⟨(Go.TypeDesc.func #[9, 3, 3] #[2, 76] Bool.false), 1, 8, .nilFunc⟩ := ⟨Tryd.underlying111, by kernel_rfl⟩
theorem ti112 : TyOk Tryd.prog 112 ⟨(Go.TypeDesc.pointer 119), 1, 8, (.pointer none)⟩ := ⟨Tryd.underlying112, by kernel_rfl⟩
theorem ti113 : TyOk Tryd.prog 113 ⟨(Go.TypeDesc.func #[9, 9] #[112] Bool.false), 1, 8, .nilFunc⟩ := ⟨Tryd.underlying113, by kernel_rfl⟩
theorem ti114 : TyOk Tryd.prog 114 ⟨(Go.TypeDesc.func #[9, 9, 3] #[112] Bool.false), 1, 8, .nilFunc⟩ := ⟨Tryd.underlying114, by kernel_rfl⟩
theorem ti115 : TyOk Tryd.prog 115 ⟨(Go.TypeDesc.func #[103] #[3] Bool.false), 1, 8, .nilFunc⟩ := ⟨Tryd.underlying115, by kernel_rfl⟩
theorem ti117 : TyOk Tryd.prog 117 ⟨(Go.TypeDesc.func #[9, 3, 3] #[65, 76] Bool.false), 1, 8, .nilFunc⟩ := ⟨Tryd.underlying117, by kernel_rfl⟩
theorem ti118 : TyOk Tryd.prog 118 ⟨(Go.TypeDesc.struct #[{ name := "Func", type := 9, offset := 0, embedded := Bool.false, tag := "", pkgPath := "", byteOffset := 0 }, { name := "Num", type := 9, offset := 1, embedded := Bool.false, tag := "", pkgPath := "", byteOffset := 16 }, { name := "Err", type := 76, offset := 2, embedded := Bool.false, tag := "", pkgPath := "", byteOffset := 32 }]), 3, 48, (.agg #[(.string ⟨#[]⟩), (.string ⟨#[]⟩), .nilIface])⟩ := ⟨Tryd.underlying118, by kernel_rfl⟩
theorem ti119 : TyOk Tryd.prog 119 ⟨(Go.TypeDesc.struct #[{ name := "Func", type := 9, offset := 0, embedded := Bool.false, tag := "", pkgPath := "", byteOffset := 0 }, { name := "Num", type := 9, offset := 1, embedded := Bool.false, tag := "", pkgPath := "", byteOffset := 16 }, { name := "Err", type := 76, offset := 2, embedded := Bool.false, tag := "", pkgPath := "", byteOffset := 32 }]), 3, 48, (.agg #[(.string ⟨#[]⟩), (.string ⟨#[]⟩), .nilIface])⟩ := ⟨Tryd.underlying119, by kernel_rfl⟩
theorem ti120 : TyOk Tryd.prog 120 ⟨(Go.TypeDesc.func #[9] #[76] Bool.false), 1, 8, .nilFunc⟩ := ⟨Tryd.underlying120, by kernel_rfl⟩
theorem ti121 : TyOk Tryd.prog 121 ⟨(Go.TypeDesc.array 32 5), 32, 32, (.agg #[(.int .u8 0), (.int .u8 0), (.int .u8 0), (.int .u8 0), (.int .u8 0), (.int .u8 0), (.int .u8 0), (.int .u8 0), (.int .u8 0), (.int .u8 0), (.int .u8 0), (.int .u8 0), (.int .u8 0), (.int .u8 0), (.int .u8 0), (.int .u8 0), (.int .u8 0), (.int .u8 0), (.int .u8 0), (.int .u8 0), (.int .u8 0), (.int .u8 0), (.int .u8 0), (.int .u8 0), (.int .u8 0), (.int .u8 0), (.int .u8 0), (.int .u8 0), (.int .u8 0), (.int .u8 0), (.int .u8 0), (.int .u8 0)])⟩ := ⟨Tryd.underlying121, by kernel_rfl⟩
theorem ti122 : TyOk Tryd.prog 122 ⟨(Go.TypeDesc.array 64 5), 64, 64, (.agg #[(.int .u8 0), (.int .u8 0), (.int .u8 0), (.int .u8 0), (.int .u8 0), (.int .u8 0), (.int .u8 0), (.int .u8 0), (.int .u8 0), (.int .u8 0), (.int .u8 0), (.int .u8 0), (.int .u8 0), (.int .u8 0), (.int .u8 0), (.int .u8 0), (.int .u8 0), (.int .u8 0), (.int .u8 0), (.int .u8 0), (.int .u8 0), (.int .u8 0), (.int .u8 0), (.int .u8 0), (.int .u8 0), (.int .u8 0), (.int .u8 0), (.int .u8 0), (.int .u8 0), (.int .u8 0), (.int .u8 0), (.int .u8 0), (.int .u8 0), (.int .u8 0), (.int .u8 0), (.int .u8 0), (.int .u8 0), (.int .u8 0), (.int .u8 0), (.int .u8 0), (.int .u8 0), (.int .u8 0), (.int .u8 0), (.int .u8 0), (.int .u8 0), (.int .u8 0), (.int .u8 0), (.int .u8 0), (.int .u8 0), (.int .u8 0), (.int .u8 0), (.int .u8 0), (.int .u8 0), (.int .u8 0), (.int .u8 0), (.int .u8 0), (.int .u8 0), (.int .u8 0), (.int .u8 0), (.int .u8 0), (.int .u8 0), (.int .u8 0), (.int .u8 0), (.int .u8 0)])⟩ := ⟨Tryd.underlying122, by kernel_rfl⟩
theorem ti123 : TyOk Tryd.prog 123 ⟨(Go.TypeDesc.func #[5] #[5] Bool.false), 1, 8, .nilFunc⟩ := ⟨Tryd.underlying123, by kernel_rfl⟩
theorem ti124 : TyOk Tryd.prog 124 ⟨(Go.TypeDesc.pointer 126), 1, 8, (.pointer none)⟩ := ⟨Tryd.underlying124, by kernel_rfl⟩
theorem ti125 : TyOk Tryd.prog 125 ⟨(Go.TypeDesc.struct #[{ name := "s", type := 9, offset := 0, embedded := Bool.false, tag := "", pkgPath := "errors", byteOffset := 0 }]), 1, 16, (.agg #[(.string ⟨#[]⟩)])⟩ := ⟨Tryd.underlying125, by kernel_rfl⟩
theorem ti126 : TyOk Tryd.prog 126 ⟨(Go.TypeDesc.struct #[{ name := "s", type := 9, offset := 0, embedded := Bool.false, tag := "", pkgPath := "errors", byteOffset := 0 }]), 1, 16, (.agg #[(.string ⟨#[]⟩)])⟩ := ⟨Tryd.underlying126, by kernel_rfl⟩
theorem ti127 : TyOk Tryd.prog 127 ⟨(Go.TypeDesc.struct #[{ name := "_interface", type := 17, offset := 0, embedded := Bool.false, tag := "", pkgPath := "runtime", byteOffset := 0 }, { name := "concrete", type := 17, offset := 1, embedded := Bool.false, tag := "", pkgPath := "runtime", byteOffset := 8 }, { name := "asserted", type := 17, offset := 2, embedded := Bool.false, tag := "", pkgPath := "runtime", byteOffset := 16 }, { name := "missingMethod", type := 9, offset := 3, embedded := Bool.false, tag := "", pkgPath := "runtime", byteOffset := 24 }]), 4, 40, (.agg #[(.pointer none), (.pointer none), (.pointer none), (.string ⟨#[]⟩)])⟩ := ⟨Tryd.underlying127, by kernel_rfl⟩
theorem ti128 : TyOk Tryd.prog 128 ⟨(Go.TypeDesc.struct #[{ name := "_interface", type := 17, offset := 0, embedded := Bool.false, tag := "", pkgPath := "runtime", byteOffset := 0 }, { name := "concrete", type := 17, offset := 1, embedded := Bool.false, tag := "", pkgPath := "runtime", byteOffset := 8 }, { name := "asserted", type := 17, offset := 2, embedded := Bool.false, tag := "", pkgPath := "runtime", byteOffset := 16 }, { name := "missingMethod", type := 9, offset := 3, embedded := Bool.false, tag := "", pkgPath := "runtime", byteOffset := 24 }]), 4, 40, (.agg #[(.pointer none), (.pointer none), (.pointer none), (.string ⟨#[]⟩)])⟩ := ⟨Tryd.underlying128, by kernel_rfl⟩
theorem ti129 : TyOk Tryd.prog 129 ⟨(Go.TypeDesc.array 0 16), 0, 0, (.agg #[])⟩ := ⟨Tryd.underlying129, by kernel_rfl⟩
theorem ti130 : TyOk Tryd.prog 130 ⟨(Go.TypeDesc.struct #[{ name := "_", type := 129, offset := 0, embedded := Bool.false, tag := "", pkgPath := "runtime", byteOffset := 0 }]), 0, 0, (.agg #[])⟩ := ⟨Tryd.underlying130, by kernel_rfl⟩
theorem ti131 : TyOk Tryd.prog 131 ⟨(Go.TypeDesc.struct #[{ name := "_", type := 129, offset := 0, embedded := Bool.false, tag := "", pkgPath := "runtime", byteOffset := 0 }]), 0, 0, (.agg #[])⟩ := ⟨Tryd.underlying131, by kernel_rfl⟩
theorem ti132 : TyOk Tryd.prog 132 ⟨(Go.TypeDesc.func #[] #[3] Bool.false), 1, 8, .nilFunc⟩ := ⟨Tryd.underlying132, by kernel_rfl⟩
theorem ti133 : TyOk Tryd.prog 133 ⟨(Go.TypeDesc.int Go.IntKind.u8), 1, 1, (.int .u8 0)⟩ := ⟨Tryd.underlying133, by kernel_rfl⟩
theorem ti134 : TyOk Tryd.prog 134 ⟨(Go.TypeDesc.int Go.IntKind.u8), 1, 1, (.int .u8 0)⟩ := ⟨Tryd.underlying134, by kernel_rfl⟩
theorem ti135 : TyOk Tryd.prog 135 ⟨(Go.TypeDesc.func #[94, 94] #[4] Bool.false), 1, 8, .nilFunc⟩ := ⟨Tryd.underlying135, by kernel_rfl⟩
theorem ti136 : TyOk Tryd.prog 136 ⟨(Go.TypeDesc.int Go.IntKind.i32), 1, 4, (.int .i32 0)⟩ := ⟨Tryd.underlying136, by kernel_rfl⟩
theorem ti137 : TyOk Tryd.prog 137 ⟨(Go.TypeDesc.int Go.IntKind.i32), 1, 4, (.int .i32 0)⟩ := ⟨Tryd.underlying137, by kernel_rfl⟩
theorem ti138 : TyOk Tryd.prog 138 ⟨(Go.TypeDesc.struct #[{ name := "Size_", type := 12, offset := 0, embedded := Bool.false, tag := "", pkgPath := "", byteOffset := 0 }, { name := "PtrBytes", type := 12, offset := 1, embedded := Bool.false, tag := "", pkgPath := "", byteOffset := 8 }, { name := "Hash", type := 103, offset := 2, embedded := Bool.false, tag := "", pkgPath := "", byteOffset := 16 }, { name := "TFlag", type := 133, offset := 3, embedded := Bool.false, tag := "", pkgPath := "", byteOffset := 20 }, { name := "Align_", type := 5, offset := 4, embedded := Bool.false, tag := "", pkgPath := "", byteOffset := 21 }, { name := "FieldAlign_", type := 5, offset := 5, embedded := Bool.false, tag := "", pkgPath := "", byteOffset := 22 }, { name := "Kind_", type := 134, offset := 6, embedded := Bool.false, tag := "", pkgPath := "", byteOffset := 23 }, { name := "Equal", type := 135, offset := 7, embedded := Bool.false, tag := "", pkgPath := "", byteOffset := 24 }, { name := "GCData", type := 85, offset := 8, embedded := Bool.false, tag := "", pkgPath := "", byteOffset := 32 }, { name := "Str", type := 136, offset := 9, embedded := Bool.false, tag := "", pkgPath := "", byteOffset := 40 }, { name := "PtrToThis", type := 137, offset := 10, embedded := Bool.false, tag := "", pkgPath := "", byteOffset := 44 }]), 11, 48, (.agg #[(.int .u64 0), (.int .u64 0), (.int .u32 0), (.int .u8 0), (.int .u8 0), (.int .u8 0), (.int .u8 0), .nilFunc, (.pointer none), (.int .i32 0), (.int .i32 0)])⟩ := ⟨Tryd.underlying138, by kernel_rfl⟩
theorem ti139 : TyOk Tryd.prog 139 ⟨(Go.TypeDesc.struct #[{ name := "Size_", type := 12, offset := 0, embedded := Bool.false, tag := "", pkgPath := "", byteOffset := 0 }, { name := "PtrBytes", type := 12, offset := 1, embedded := Bool.false, tag := "", pkgPath := "", byteOffset := 8 }, { name := "Hash", type := 103, offset := 2, embedded := Bool.false, tag := "", pkgPath := "", byteOffset := 16 }, { name := "TFlag", type := 133, offset := 3, embedded := Bool.false, tag := "", pkgPath := "", byteOffset := 20 }, { name := "Align_", type := 5, offset := 4, embedded := Bool.false, tag := "", pkgPath := "", byteOffset := 21 }, { name := "FieldAlign_", type := 5, offset := 5, embedded := Bool.false, tag := "", pkgPath := "", byteOffset := 22 }, { name := "Kind_", type := 134, offset := 6, embedded := Bool.false, tag := "", pkgPath := "", byteOffset := 23 }, { name := "Equal", type := 135, offset := 7, embedded := Bool.false, tag := "", pkgPath := "", byteOffset := 24 }, { name := "GCData", type := 85, offset := 8, embedded := Bool.false, tag := "", pkgPath := "", byteOffset := 32 }, { name := "Str", type := 136, offset := 9, embedded := Bool.false, tag := "", pkgPath := "", byteOffset := 40 }, { name := "PtrToThis", type := 137, offset := 10, embedded := Bool.false, tag := "", pkgPath := "", byteOffset := 44 }]), 11, 48, (.agg #[(.int .u64 0), (.int .u64 0), (.int .u32 0), (.int .u8 0), (.int .u8 0), (.int .u8 0), (.int .u8 0), .nilFunc, (.pointer none), (.int .i32 0), (.int .i32 0)])⟩ := ⟨Tryd.underlying139, by kernel_rfl⟩
def tts : List (Nat × TyI) := [
(1, ⟨(Go.TypeDesc.func #[] #[] Bool.false), 1, 8, .nilFunc⟩),
(2, ⟨(Go.TypeDesc.int Go.IntKind.i64), 1, 8, (.int .i64 0)⟩),
(3, ⟨(Go.TypeDesc.int Go.IntKind.i64), 1, 8, (.int .i64 0)⟩),
(4, ⟨Go.TypeDesc.bool, 1, 1, (.bool false)⟩),
(5, ⟨(Go.TypeDesc.int Go.IntKind.u8), 1, 1, (.int .u8 0)⟩),
(6, ⟨(Go.TypeDesc.int Go.IntKind.u8), 1, 1, (.int .u8 0)⟩),
(7, ⟨(Go.TypeDesc.struct #[{ name := "x", type := 2, offset := 0, embedded := Bool.false, tag := "", pkgPath := "runtime", byteOffset := 0 }, { name := "y", type := 3, offset := 1, embedded := Bool.false, tag := "", pkgPath := "runtime", byteOffset := 8 }, { name := "signed", type := 4, offset := 2, embedded := Bool.false, tag := "", pkgPath := "runtime", byteOffset := 16 }, { name := "code", type := 6, offset := 3, embedded := Bool.false, tag := "", pkgPath := "runtime", byteOffset := 17 }]), 4, 24, (.agg #[(.int .i64 0), (.int .i64 0), (.bool false), (.int .u8 0)])⟩),
(8, ⟨(Go.TypeDesc.struct #[{ name := "x", type := 2, offset := 0, embedded := Bool.false, tag := "", pkgPath := "runtime", byteOffset := 0 }, { name := "y", type := 3, offset := 1, embedded := Bool.false, tag := "", pkgPath := "runtime", byteOffset := 8 }, { name := "signed", type := 4, offset := 2, embedded := Bool.false, tag := "", pkgPath := "runtime", byteOffset := 16 }, { name := "code", type := 6, offset := 3, embedded := Bool.false, tag := "", pkgPath := "runtime", byteOffset := 17 }]), 4, 24, (.agg #[(.int .i64 0), (.int .i64 0), (.bool false), (.int .u8 0)])⟩),
(9, ⟨Go.TypeDesc.string, 1, 16, (.string ⟨#[]⟩)⟩),
(10, ⟨Go.TypeDesc.string, 1, 16, (.string ⟨#[]⟩)⟩),
(11, ⟨Go.TypeDesc.string, 1, 16, (.string ⟨#[]⟩)⟩),
(12, ⟨(Go.TypeDesc.int Go.IntKind.u64), 1, 8, (.int .u64 0)⟩),
(13, ⟨(Go.TypeDesc.struct #[{ name := "msg", type := 9, offset := 0, embedded := Bool.false, tag := "", pkgPath := "runtime", byteOffset := 0 }, { name := "addr", type := 12, offset := 1, embedded := Bool.false, tag := "", pkgPath := "runtime", byteOffset := 16 }]), 2, 24, (.agg #[(.string ⟨#[]⟩), (.int .u64 0)])⟩),
(14, ⟨(Go.TypeDesc.struct #[{ name := "msg", type := 9, offset := 0, embedded := Bool.false, tag := "", pkgPath := "runtime", byteOffset := 0 }, { name := "addr", type := 12, offset := 1, embedded := Bool.false, tag := "", pkgPath := "runtime", byteOffset := 16 }]), 2, 24, (.agg #[(.string ⟨#[]⟩), (.int .u64 0)])⟩),
(15, ⟨(Go.TypeDesc.pointer 128), 1, 8, (.pointer none)⟩),
(16, ⟨(Go.TypeDesc.pointer 131), 1, 8, (.pointer none)⟩),
(17, ⟨(Go.TypeDesc.pointer 139), 1, 8, (.pointer none)⟩),
(18, ⟨(Go.TypeDesc.struct #[{ name := "typ", type := 17, offset := 0, embedded := Bool.false, tag := "", pkgPath := "internal/runtime/maps", byteOffset := 0 }]), 1, 8, (.agg #[(.pointer none)])⟩),
(19, ⟨(Go.TypeDesc.struct #[{ name := "typ", type := 17, offset := 0, embedded := Bool.false, tag := "", pkgPath := "internal/runtime/maps", byteOffset := 0 }]), 1, 8, (.agg #[(.pointer none)])⟩),
(20, ⟨(Go.TypeDesc.interface #[]), 1, 16, .nilIface⟩),
(21, ⟨(Go.TypeDesc.int Go.IntKind.i32), 1, 4, (.int .i32 0)⟩),
(22, ⟨(Go.TypeDesc.slice 9), 1, 24, (.slice none 0 0)⟩),
(23, ⟨(Go.TypeDesc.struct #[{ name := "From", type := 3, offset := 0, embedded := Bool.false, tag := "", pkgPath := "", byteOffset := 0 }, { name := "To", type := 3, offset := 1, embedded := Bool.false, tag := "", pkgPath := "", byteOffset := 8 }]), 2, 16, (.agg #[(.int .i64 0), (.int .i64 0)])⟩),
(24, ⟨(Go.TypeDesc.struct #[{ name := "From", type := 3, offset := 0, embedded := Bool.false, tag := "", pkgPath := "", byteOffset := 0 }, { name := "To", type := 3, offset := 1, embedded := Bool.false, tag := "", pkgPath := "", byteOffset := 8 }]), 2, 16, (.agg #[(.int .i64 0), (.int .i64 0)])⟩),
(25, ⟨(Go.TypeDesc.func #[] #[4] Bool.false), 1, 8, .nilFunc⟩),
(27, ⟨(Go.TypeDesc.func #[22, 3] #[3, 3] Bool.false), 1, 8, .nilFunc⟩),
(28, ⟨(Go.TypeDesc.func #[9] #[9] Bool.false), 1, 8, .nilFunc⟩),
(29, ⟨(Go.TypeDesc.func #[22, 3] #[9] Bool.false), 1, 8, .nilFunc⟩),
(30, ⟨(Go.TypeDesc.func #[22] #[9] Bool.false), 1, 8, .nilFunc⟩),
(31, ⟨(Go.TypeDesc.func #[22, 3, 3] #[9] Bool.false), 1, 8, .nilFunc⟩),
(32, ⟨(Go.TypeDesc.func #[22, 24] #[4] Bool.false), 1, 8, .nilFunc⟩),
(33, ⟨(Go.TypeDesc.func #[9] #[4] Bool.false), 1, 8, .nilFunc⟩),
(34, ⟨(Go.TypeDesc.func #[22] #[4] Bool.false), 1, 8, .nilFunc⟩),
(35, ⟨(Go.TypeDesc.func #[22, 9, 3] #[4] Bool.false), 1, 8, .nilFunc⟩),
(36, ⟨(Go.TypeDesc.slice 38), 1, 24, (.slice none 0 0)⟩),
(37, ⟨(Go.TypeDesc.struct #[{ name := "Page", type := 3, offset := 0, embedded := Bool.false, tag := "", pkgPath := "", byteOffset := 0 }, { name := "Line", type := 3, offset := 1, embedded := Bool.false, tag := "", pkgPath := "", byteOffset := 8 }, { name := "Sub", type := 3, offset := 2, embedded := Bool.false, tag := "", pkgPath := "", byteOffset := 16 }]), 3, 24, (.agg #[(.int .i64 0), (.int .i64 0), (.int .i64 0)])⟩),
(38, ⟨(Go.TypeDesc.struct #[{ name := "Page", type := 3, offset := 0, embedded := Bool.false, tag := "", pkgPath := "", byteOffset := 0 }, { name := "Line", type := 3, offset := 1, embedded := Bool.false, tag := "", pkgPath := "", byteOffset := 8 }, { name := "Sub", type := 3, offset := 2, embedded := Bool.false, tag := "", pkgPath := "", byteOffset := 16 }]), 3, 24, (.agg #[(.int .i64 0), (.int .i64 0), (.int .i64 0)])⟩),
(39, ⟨(Go.TypeDesc.func #[38, 38, 38, 4] #[9] Bool.false), 1, 8, .nilFunc⟩),
(40, ⟨(Go.TypeDesc.func #[22, 22] #[4] Bool.false), 1, 8, .nilFunc⟩),
(41, ⟨(Go.TypeDesc.func #[36] #[22] Bool.false), 1, 8, .nilFunc⟩),
(42, ⟨(Go.TypeDesc.func #[38] #[4] Bool.false), 1, 8, .nilFunc⟩),
(43, ⟨(Go.TypeDesc.func #[36, 4] #[4] Bool.false), 1, 8, .nilFunc⟩),
(45, ⟨(Go.TypeDesc.func #[9, 38, 4] #[38, 38, 4] Bool.false), 1, 8, .nilFunc⟩),
(46, ⟨(Go.TypeDesc.func #[9, 38, 4] #[4] Bool.false), 1, 8, .nilFunc⟩),
(47, ⟨(Go.TypeDesc.array 3 38), 9, 72, (.agg #[(.int .i64 0), (.int .i64 0), (.int .i64 0), (.int .i64 0), (.int .i64 0), (.int .i64 0), (.int .i64 0), (.int .i64 0), (.int .i64 0)])⟩),
(48, ⟨(Go.TypeDesc.func #[47, 4, 9] #[4] Bool.false), 1, 8, .nilFunc⟩),
(49, ⟨(Go.TypeDesc.func #[36] #[4] Bool.false), 1, 8, .nilFunc⟩),
(50, ⟨(Go.TypeDesc.func #[47] #[4] Bool.false), 1, 8, .nilFunc⟩),
(51, ⟨(Go.TypeDesc.func #[9, 9, 9] #[9] Bool.false), 1, 8, .nilFunc⟩),
(52, ⟨(Go.TypeDesc.func #[3] #[9] Bool.false), 1, 8, .nilFunc⟩),
(53, ⟨(Go.TypeDesc.func #[3, 3] #[38] Bool.false), 1, 8, .nilFunc⟩),
(54, ⟨(Go.TypeDesc.func #[38] #[9] Bool.false), 1, 8, .nilFunc⟩),
(55, ⟨(Go.TypeDesc.func #[38, 38] #[9] Bool.false), 1, 8, .nilFunc⟩),
(56, ⟨(Go.TypeDesc.array 3 3), 3, 24, (.agg #[(.int .i64 0), (.int .i64 0), (.int .i64 0)])⟩),
(58, ⟨(Go.TypeDesc.func #[9, 9] #[9, 9, 4] Bool.false), 1, 8, .nilFunc⟩),
(60, ⟨(Go.TypeDesc.func #[9, 38] #[38, 4] Bool.false), 1, 8, .nilFunc⟩),
(61, ⟨(Go.TypeDesc.slice 3), 1, 24, (.slice none 0 0)⟩),
(62, ⟨(Go.TypeDesc.func #[9] #[61] Bool.false), 1, 8, .nilFunc⟩),
(63, ⟨(Go.TypeDesc.func #[9, 9, 9, 3] #[9] Bool.false), 1, 8, .nilFunc⟩),
(64, ⟨(Go.TypeDesc.func #[65] #[9] Bool.false), 1, 8, .nilFunc⟩),
(65, ⟨(Go.TypeDesc.int Go.IntKind.u64), 1, 8, (.int .u64 0)⟩),
(66, ⟨(Go.TypeDesc.func #[22, 9] #[9] Bool.false), 1, 8, .nilFunc⟩),
(68, ⟨(Go.TypeDesc.func #[9] #[3, 4] Bool.false), 1, 8, .nilFunc⟩),
(69, ⟨(Go.TypeDesc.func #[9, 9] #[3] Bool.false), 1, 8, .nilFunc⟩),
(70, ⟨(Go.TypeDesc.pointer 73), 1, 8, (.pointer none)⟩),
(71, ⟨(Go.TypeDesc.slice 5), 1, 24, (.slice none 0 0)⟩),
(72, ⟨(Go.TypeDesc.struct #[{ name := "addr", type := 70, offset := 0, embedded := Bool.false, tag := "", pkgPath := "strings", byteOffset := 0 }, { name := "buf", type := 71, offset := 1, embedded := Bool.false, tag := "", pkgPath := "strings", byteOffset := 8 }]), 2, 32, (.agg #[(.pointer none), (.slice none 0 0)])⟩),
(73, ⟨(Go.TypeDesc.struct #[{ name := "addr", type := 70, offset := 0, embedded := Bool.false, tag := "", pkgPath := "strings", byteOffset := 0 }, { name := "buf", type := 71, offset := 1, embedded := Bool.false, tag := "", pkgPath := "strings", byteOffset := 8 }]), 2, 32, (.agg #[(.pointer none), (.slice none 0 0)])⟩),
(74, ⟨(Go.TypeDesc.func #[3] #[] Bool.false), 1, 8, .nilFunc⟩),
(75, ⟨(Go.TypeDesc.interface #[("Error", 81)]), 1, 16, .nilIface⟩),
(76, ⟨(Go.TypeDesc.interface #[("Error", 81)]), 1, 16, .nilIface⟩),
(78, ⟨(Go.TypeDesc.func #[9] #[3, 76] Bool.false), 1, 8, .nilFunc⟩),
(80, ⟨(Go.TypeDesc.func #[9] #[21, 3] Bool.false), 1, 8, .nilFunc⟩),
(81, ⟨(Go.TypeDesc.func #[] #[9] Bool.false), 1, 8, .nilFunc⟩),
(82, ⟨(Go.TypeDesc.func #[2, 3] #[9] Bool.false), 1, 8, .nilFunc⟩),
(83, ⟨(Go.TypeDesc.func #[9] #[3] Bool.false), 1, 8, .nilFunc⟩),
(84, ⟨(Go.TypeDesc.func #[9, 5] #[3] Bool.false), 1, 8, .nilFunc⟩),
(85, ⟨(Go.TypeDesc.pointer 5), 1, 8, (.pointer none)⟩),
(86, ⟨(Go.TypeDesc.array 24 5), 24, 24, (.agg #[(.int .u8 0), (.int .u8 0), (.int .u8 0), (.int .u8 0), (.int .u8 0), (.int .u8 0), (.int .u8 0), (.int .u8 0), (.int .u8 0), (.int .u8 0), (.int .u8 0), (.int .u8 0), (.int .u8 0), (.int .u8 0), (.int .u8 0), (.int .u8 0), (.int .u8 0), (.int .u8 0), (.int .u8 0), (.int .u8 0), (.int .u8 0), (.int .u8 0), (.int .u8 0), (.int .u8 0)])⟩),
(87, ⟨(Go.TypeDesc.func #[65] #[3] Bool.false), 1, 8, .nilFunc⟩),
(88, ⟨(Go.TypeDesc.func #[71, 65] #[] Bool.false), 1, 8, .nilFunc⟩),
(90, ⟨(Go.TypeDesc.func #[71, 65, 3, 4, 4] #[71, 9] Bool.false), 1, 8, .nilFunc⟩),
(91, ⟨(Go.TypeDesc.func #[3] #[3] Bool.false), 1, 8, .nilFunc⟩),
(92, ⟨(Go.TypeDesc.int Go.IntKind.u64), 1, 8, (.int .u64 0)⟩),
(93, ⟨(Go.TypeDesc.func #[9, 9, 3, 3, 76] #[76] Bool.false), 1, 8, .nilFunc⟩),
(95, ⟨(Go.TypeDesc.func #[94] #[94] Bool.false), 1, 8, .nilFunc⟩),
(96, ⟨(Go.TypeDesc.func #[3] #[71] Bool.false), 1, 8, .nilFunc⟩),
(98, ⟨(Go.TypeDesc.struct #[{ name := "lo", type := 5, offset := 0, embedded := Bool.false, tag := "", pkgPath := "unicode/utf8", byteOffset := 0 }, { name := "hi", type := 5, offset := 1, embedded := Bool.false, tag := "", pkgPath := "unicode/utf8", byteOffset := 1 }]), 2, 2, (.agg #[(.int .u8 0), (.int .u8 0)])⟩),
(99, ⟨(Go.TypeDesc.struct #[{ name := "lo", type := 5, offset := 0, embedded := Bool.false, tag := "", pkgPath := "unicode/utf8", byteOffset := 0 }, { name := "hi", type := 5, offset := 1, embedded := Bool.false, tag := "", pkgPath := "unicode/utf8", byteOffset := 1 }]), 2, 2, (.agg #[(.int .u8 0), (.int .u8 0)])⟩),
(100, ⟨(Go.TypeDesc.array 16 99), 32, 32, (.agg #[(.int .u8 0), (.int .u8 0), (.int .u8 0), (.int .u8 0), (.int .u8 0), (.int .u8 0), (.int .u8 0), (.int .u8 0), (.int .u8 0), (.int .u8 0), (.int .u8 0), (.int .u8 0), (.int .u8 0), (.int .u8 0), (.int .u8 0), (.int .u8 0), (.int .u8 0), (.int .u8 0), (.int .u8 0), (.int .u8 0), (.int .u8 0), (.int .u8 0), (.int .u8 0), (.int .u8 0), (.int .u8 0), (.int .u8 0), (.int .u8 0), (.int .u8 0), (.int .u8 0), (.int .u8 0), (.int .u8 0), (.int .u8 0)])⟩),
(101, ⟨(Go.TypeDesc.func #[4] #[3] Bool.false), 1, 8, .nilFunc⟩),
(102, ⟨(Go.TypeDesc.array 20 65), 20, 160, (.agg #[(.int .u64 0), (.int .u64 0), (.int .u64 0), (.int .u64 0), (.int .u64 0), (.int .u64 0), (.int .u64 0), (.int .u64 0), (.int .u64 0), (.int .u64 0), (.int .u64 0), (.int .u64 0), (.int .u64 0), (.int .u64 0), (.int .u64 0), (.int .u64 0), (.int .u64 0), (.int .u64 0), (.int .u64 0), (.int .u64 0)])⟩),
(103, ⟨(Go.TypeDesc.int Go.IntKind.u32), 1, 4, (.int .u32 0)⟩),
(104, ⟨(Go.TypeDesc.array 65 5), 65, 65, (.agg #[(.int .u8 0), (.int .u8 0), (.int .u8 0), (.int .u8 0), (.int .u8 0), (.int .u8 0), (.int .u8 0), (.int .u8 0), (.int .u8 0), (.int .u8 0), (.int .u8 0), (.int .u8 0), (.int .u8 0), (.int .u8 0), (.int .u8 0), (.int .u8 0), (.int .u8 0), (.int .u8 0), (.int .u8 0), (.int .u8 0), (.int .u8 0), (.int .u8 0), (.int .u8 0), (.int .u8 0), (.int .u8 0), (.int .u8 0), (.int .u8 0), (.int .u8 0), (.int .u8 0), (.int .u8 0), (.int .u8 0), (.int .u8 0), (.int .u8 0), (.int .u8 0), (.int .u8 0), (.int .u8 0), (.int .u8 0), (.int .u8 0), (.int .u8 0), (.int .u8 0), (.int .u8 0), (.int .u8 0), (.int .u8 0), (.int .u8 0), (.int .u8 0), (.int .u8 0), (.int .u8 0), (.int .u8 0), (.int .u8 0), (.int .u8 0), (.int .u8 0), (.int .u8 0), (.int .u8 0), (.int .u8 0), (.int .u8 0), (.int .u8 0), (.int .u8 0), (.int .u8 0), (.int .u8 0), (.int .u8 0), (.int .u8 0), (.int .u8 0), (.int .u8 0), (.int .u8 0), (.int .u8 0)])⟩),
(105, ⟨(Go.TypeDesc.func #[3] #[4] Bool.false), 1, 8, .nilFunc⟩),
(106, ⟨(Go.TypeDesc.func #[92] #[3] Bool.false), 1, 8, .nilFunc⟩),
(108, ⟨(Go.TypeDesc.func #[9] #[103, 103] Bool.false), 1, 8, .nilFunc⟩),
(109, ⟨(Go.TypeDesc.int Go.IntKind.i64), 1, 8, (.int .i64 0)⟩),
(111, ⟨(Go.TypeDesc.func #[9, 3, 3] #[2, 76] Bool.false), 1, 8, .nilFunc⟩),
(112, ⟨(Go.TypeDesc.pointer 119), 1, 8, (.pointer none)⟩),
(113, ⟨(Go.TypeDesc.func #[9, 9] #[112] Bool.false), 1, 8, .nilFunc⟩),
(114, ⟨(Go.TypeDesc.func #[9, 9, 3] #[112] Bool.false), 1, 8, .nilFunc⟩),
(115, ⟨(Go.TypeDesc.func #[103] #[3] Bool.false), 1, 8, .nilFunc⟩),
(117, ⟨(Go.TypeDesc.func #[9, 3, 3] #[65, 76] Bool.false), 1, 8, .nilFunc⟩),
(118, ⟨(Go.TypeDesc.struct #[{ name := "Func", type := 9, offset := 0, embedded := Bool.false, tag := "", pkgPath := "", byteOffset := 0 }, { name := "Num", type := 9, offset := 1, embedded := Bool.false, tag := "", pkgPath := "", byteOffset := 16 }, { name := "Err", type := 76, offset := 2, embedded := Bool.false, tag := "", pkgPath := "", byteOffset := 32 }]), 3, 48, (.agg #[(.string ⟨#[]⟩), (.string ⟨#[]⟩), .nilIface])⟩),
(119, ⟨(Go.TypeDesc.struct #[{ name := "Func", type := 9, offset := 0, embedded := Bool.false, tag := "", pkgPath := "", byteOffset := 0 }, { name := "Num", type := 9, offset := 1, embedded := Bool.false, tag := "", pkgPath := "", byteOffset := 16 }, { name := "Err", type := 76, offset := 2, embedded := Bool.false, tag := "", pkgPath := "", byteOffset := 32 }]), 3, 48, (.agg #[(.string ⟨#[]⟩), (.string ⟨#[]⟩), .nilIface])⟩),
(120, ⟨(Go.TypeDesc.func #[9] #[76] Bool.false), 1, 8, .nilFunc⟩),
(121, ⟨(Go.TypeDesc.array 32 5), 32, 32, (.agg #[(.int .u8 0), (.int .u8 0), (.int .u8 0), (.int .u8 0), (.int .u8 0), (.int .u8 0), (.int .u8 0), (.int .u8 0), (.int .u8 0), (.int .u8 0), (.int .u8 0), (.int .u8 0), (.int .u8 0), (.int .u8 0), (.int .u8 0), (.int .u8 0), (.int .u8 0), (.int .u8 0), (.int .u8 0), (.int .u8 0), (.int .u8 0), (.int .u8 0), (.int .u8 0), (.int .u8 0), (.int .u8 0), (.int .u8 0), (.int .u8 0), (.int .u8 0), (.int .u8 0), (.int .u8 0), (.int .u8 0), (.int .u8 0)])⟩),
(122, ⟨(Go.TypeDesc.array 64 5), 64, 64, (.agg #[(.int .u8 0), (.int .u8 0), (.int .u8 0), (.int .u8 0), (.int .u8 0), (.int .u8 0), (.int .u8 0), (.int .u8 0), (.int .u8 0), (.int .u8 0), (.int .u8 0), (.int .u8 0), (.int .u8 0), (.int .u8 0), (.int .u8 0), (.int .u8 0), (.int .u8 0), (.int .u8 0), (.int .u8 0), (.int .u8 0), (.int .u8 0), (.int .u8 0), (.int .u8 0), (.int .u8 0), (.int .u8 0), (.int .u8 0), (.int .u8 0), (.int .u8 0), (.int .u8 0), (.int .u8 0), (.int .u8 0), (.int .u8 0), (.int .u8 0), (.int .u8 0), (.int .u8 0), (.int .u8 0), (.int .u8 0), (.int .u8 0), (.int .u8 0), (.int .u8 0), (.int .u8 0), (.int .u8 0), (.int .u8 0), (.int .u8 0), (.int .u8 0), (.int .u8 0), (.int .u8 0), (.int .u8 0), (.int .u8 0), (.int .u8 0), (.int .u8 0), (.int .u8 0), (.int .u8 0), (.int .u8 0), (.int .u8 0), (.int .u8 0), (.int .u8 0), (.int .u8 0), (.int .u8 0), (.int .u8 0), (.int .u8 0), (.int .u8 0), (.int .u8 0), (.int .u8 0)])⟩),
(123, ⟨(Go.TypeDesc.func #[5] #[5] Bool.false), 1, 8, .nilFunc⟩),
(124, ⟨(Go.TypeDesc.pointer 126), 1, 8, (.pointer none)⟩),
(125, ⟨(Go.TypeDesc.struct #[{ name := "s", type := 9, offset := 0, embedded := Bool.false, tag := "", pkgPath := "errors", byteOffset := 0 }]), 1, 16, (.agg #[(.string ⟨#[]⟩)])⟩),
(126, ⟨(Go.TypeDesc.struct #[{ name := "s", type := 9, offset := 0, embedded := Bool.false, tag := "", pkgPath := "errors", byteOffset := 0 }]), 1, 16, (.agg #[(.string ⟨#[]⟩)])⟩),
(127, ⟨(Go.TypeDesc.struct #[{ name := "_interface", type := 17, offset := 0, embedded := Bool.false, tag := "", pkgPath := "runtime", byteOffset := 0 }, { name := "concrete", type := 17, offset := 1, embedded := Bool.false, tag := "", pkgPath := "runtime", byteOffset := 8 }, { name := "asserted", type := 17, offset := 2, embedded := Bool.false, tag := "", pkgPath := "runtime", byteOffset := 16 }, { name := "missingMethod", type := 9, offset := 3, embedded := Bool.false, tag := "", pkgPath := "runtime", byteOffset := 24 }]), 4, 40, (.agg #[(.pointer none), (.pointer none), (.pointer none), (.string ⟨#[]⟩)])⟩),
(128, ⟨(Go.TypeDesc.struct #[{ name := "_interface", type := 17, offset := 0, embedded := Bool.false, tag := "", pkgPath := "runtime", byteOffset := 0 }, { name := "concrete", type := 17, offset := 1, embedded := Bool.false, tag := "", pkgPath := "runtime", byteOffset := 8 }, { name := "asserted", type := 17, offset := 2, embedded := Bool.false, tag := "", pkgPath := "runtime", byteOffset := 16 }, { name := "missingMethod", type := 9, offset := 3, embedded := Bool.false, tag := "", pkgPath := "runtime", byteOffset := 24 }]), 4, 40, (.agg #[(.pointer none), (.pointer none), (.pointer none), (.string ⟨#[]⟩)])⟩),
(129, ⟨(Go.TypeDesc.array 0 16), 0, 0, (.agg #[])⟩),
(130, ⟨(Go.TypeDesc.struct #[{ name := "_", type := 129, offset := 0, embedded := Bool.false, tag := "", pkgPath := "runtime", byteOffset := 0 }]), 0, 0, (.agg #[])⟩),
(131, ⟨(Go.TypeDesc.struct #[{ name := "_", type := 129, offset := 0, embedded := Bool.false, tag := "", pkgPath := "runtime", byteOffset := 0 }]), 0, 0, (.agg #[])⟩),
(132, ⟨(Go.TypeDesc.func #[] #[3] Bool.false), 1, 8, .nilFunc⟩),
(133, ⟨(Go.TypeDesc.int Go.IntKind.u8), 1, 1, (.int .u8 0)⟩),
(134, ⟨(Go.TypeDesc.int Go.IntKind.u8), 1, 1, (.int .u8 0)⟩),
(135, ⟨(Go.TypeDesc.func #[94, 94] #[4] Bool.false), 1, 8, .nilFunc⟩),
(136, ⟨(Go.TypeDesc.int Go.IntKind.i32), 1, 4, (.int .i32 0)⟩),
(137, ⟨(Go.TypeDesc.int Go.IntKind.i32), 1, 4, (.int .i32 0)⟩),
(138, ⟨(Go.TypeDesc.struct #[{ name := "Size_", type := 12, offset := 0, embedded := Bool.false, tag := "", pkgPath := "", byteOffset := 0 }, { name := "PtrBytes", type := 12, offset := 1, embedded := Bool.false, tag := "", pkgPath := "", byteOffset := 8 }, { name := "Hash", type := 103, offset := 2, embedded := Bool.false, tag := "", pkgPath := "", byteOffset := 16 }, { name := "TFlag", type := 133, offset := 3, embedded := Bool.false, tag := "", pkgPath := "", byteOffset := 20 }, { name := "Align_", type := 5, offset := 4, embedded := Bool.false, tag := "", pkgPath := "", byteOffset := 21 }, { name := "FieldAlign_", type := 5, offset := 5, embedded := Bool.false, tag := "", pkgPath := "", byteOffset := 22 }, { name := "Kind_", type := 134, offset := 6, embedded := Bool.false, tag := "", pkgPath := "", byteOffset := 23 }, { name := "Equal", type := 135, offset := 7, embedded := Bool.false, tag := "", pkgPath := "", byteOffset := 24 }, { name := "GCData", type := 85, offset := 8, embedded := Bool.false, tag := "", pkgPath := "", byteOffset := 32 }, { name := "Str", type := 136, offset := 9, embedded := Bool.false, tag := "", pkgPath := "", byteOffset := 40 }, { name := "PtrToThis", type := 137, offset := 10, embedded := Bool.false, tag := "", pkgPath := "", byteOffset := 44 }]), 11, 48, (.agg #[(.int .u64 0), (.int .u64 0), (.int .u32 0), (.int .u8 0), (.int .u8 0), (.int .u8 0), (.int .u8 0), .nilFunc, (.pointer none), (.int .i32 0), (.int .i32 0)])⟩),
(139, ⟨(Go.TypeDesc.struct #[{ name := "Size_", type := 12, offset := 0, embedded := Bool.false, tag := "", pkgPath := "", byteOffset := 0 }, { name := "PtrBytes", type := 12, offset := 1, embedded := Bool.false, tag := "", pkgPath := "", byteOffset := 8 }, { name := "Hash", type := 103, offset := 2, embedded := Bool.false, tag := "", pkgPath := "", byteOffset := 16 }, { name := "TFlag", type := 133, offset := 3, embedded := Bool.false, tag := "", pkgPath := "", byteOffset := 20 }, { name := "Align_", type := 5, offset := 4, embedded := Bool.false, tag := "", pkgPath := "", byteOffset := 21 }, { name := "FieldAlign_", type := 5, offset := 5, embedded := Bool.false, tag := "", pkgPath := "", byteOffset := 22 }, { name := "Kind_", type := 134, offset := 6, embedded := Bool.false, tag := "", pkgPath := "", byteOffset := 23 }, { name := "Equal", type := 135, offset := 7, embedded := Bool.false, tag := "", pkgPath := "", byteOffset := 24 }, { name := "GCData", type := 85, offset := 8, embedded := Bool.false, tag := "", pkgPath := "", byteOffset := 32 }, { name := "Str", type := 136, offset := 9, embedded := Bool.false, tag := "", pkgPath := "", byteOffset := 40 }, { name := "PtrToThis", type := 137, offset := 10, embedded := Bool.false, tag := "", pkgPath := "", byteOffset := 44 }]), 11, 48, (.agg #[(.int .u64 0), (.int .u64 0), (.int .u32 0), (.int .u8 0), (.int .u8 0), (.int .u8 0), (.int .u8 0), .nilFunc, (.pointer none), (.int .i32 0), (.int .i32 0)])⟩)]
abbrev tt : TypeId → Option TyI := lkT tts
theorem tt_ok : TOk Tryd.prog tt := TOk.of tts (fun p hp => by
  simp only [tts, List.mem_cons, List.mem_nil_iff, or_false] at hp
  rcases hp with rfl | rfl | rfl | rfl | rfl | rfl | rfl | rfl | rfl | rfl | rfl | rfl | rfl | rfl | rfl | rfl | rfl | rfl | rfl | rfl | rfl | rfl | rfl | rfl | rfl | rfl | rfl | rfl | rfl | rfl | rfl | rfl | rfl | rfl | rfl | rfl | rfl | rfl | rfl | rfl | rfl | rfl | rfl | rfl | rfl | rfl | rfl | rfl | rfl | rfl | rfl | rfl | rfl | rfl | rfl | rfl | rfl | rfl | rfl | rfl | rfl | rfl | rfl | rfl | rfl | rfl | rfl | rfl | rfl | rfl | rfl | rfl | rfl | rfl | rfl | rfl | rfl | rfl | rfl | rfl | rfl | rfl | rfl | rfl | rfl | rfl | rfl | rfl | rfl | rfl | rfl | rfl | rfl | rfl | rfl | rfl | rfl | rfl | rfl | rfl | rfl | rfl | rfl | rfl | rfl | rfl | rfl | rfl | rfl | rfl | rfl | rfl | rfl | rfl | rfl | rfl | rfl | rfl | rfl | rfl | rfl | rfl | rfl | rfl | rfl | rfl
  · exact ti1
  · exact ti2
  · exact ti3
  · exact ti4
  · exact ti5
  · exact ti6
  · exact ti7
  · exact ti8
  · exact ti9
  · exact ti10
  · exact ti11
  · exact ti12
  · exact ti13
  · exact ti14
  · exact ti15
  · exact ti16
  · exact ti17
  · exact ti18
  · exact ti19
  · exact ti20
  · exact ti21
  · exact ti22
  · exact ti23
  · exact ti24
  · exact ti25
  · exact ti27
  · exact ti28
  · exact ti29
  · exact ti30
  · exact ti31
  · exact ti32
  · exact ti33
  · exact ti34
  · exact ti35
  · exact ti36
  · exact ti37
  · exact ti38
  · exact ti39
  · exact ti40
  · exact ti41
  · exact ti42
  · exact ti43
  · exact ti45
  · exact ti46
  · exact ti47
  · exact ti48
  · exact ti49
  · exact ti50
  · exact ti51
  · exact ti52
  · exact ti53
  · exact ti54
  · exact ti55
  · exact ti56
  · exact ti58
  · exact ti60
  · exact ti61
  · exact ti62
  · exact ti63
  · exact ti64
  · exact ti65
  · exact ti66
  · exact ti68
  · exact ti69
  · exact ti70
  · exact ti71
  · exact ti72
  · exact ti73
  · exact ti74
  · exact ti75
  · exact ti76
  · exact ti78
  · exact ti80
  · exact ti81
  · exact ti82
  · exact ti83
  · exact ti84
  · exact ti85
  · exact ti86
  · exact ti87
  · exact ti88
  · exact ti90
  · exact ti91
  · exact ti92
  · exact ti93
  · exact ti95
  · exact ti96
  · exact ti98
  · exact ti99
  · exact ti100
  · exact ti101
  · exact ti102
  · exact ti103
  · exact ti104
  · exact ti105
  · exact ti106
  · exact ti108
  · exact ti109
  · exact ti111
  · exact ti112
  · exact ti113
  · exact ti114
  · exact ti115
  · exact ti117
  · exact ti118
  · exact ti119
  · exact ti120
  · exact ti121
  · exact ti122
  · exact ti123
  · exact ti124
  · exact ti125
  · exact ti126
  · exact ti127
  · exact ti128
  · exact ti129
  · exact ti130
  · exact ti131
  · exact ti132
  · exact ti133
  · exact ti134
  · exact ti135
  · exact ti136
  · exact ti137
  · exact ti138
  · exact ti139
)
end Go.Proofs.YtdneiepigllnkaaDoor
