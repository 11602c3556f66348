/- The types of the program, as the calculus asks for them. -/
import Derived.Test.YtgepmopnaomanaaProg
import Derived.Test.YtgepmopnaomanaaFwU
namespace Go.Proofs.Ytgepmopnaomanaa
set_option linter.all false
open Go Go.Proofs.Ytgepmopnaomanaa.Fw
theorem mixed : Try.prog.follows .mixedOrders = true := by kernel_rfl
theorem ti3 : TI.of Try.prog 3 = some ⟨1, 8, false, [.int .i64 0], .int .i64⟩ := by kernel_rfl   -- int
theorem ti4 : TI.of Try.prog 4 = some ⟨1, 1, false, [.bool false], .bool⟩ := by kernel_rfl   -- bool
theorem ti5 : TI.of Try.prog 5 = some ⟨1, 1, false, [.int .u8 0], .int .u8⟩ := by kernel_rfl   -- uint8
theorem ti9 : TI.of Try.prog 9 = some ⟨1, 16, false, [.str ⟨#[]⟩], .str⟩ := by kernel_rfl   -- string
theorem ti21 : TI.of Try.prog 21 = some ⟨1, 4, false, [.int .i32 0], .int .i32⟩ := by kernel_rfl   -- int32
theorem ti22 : TI.of Try.prog 22 = some ⟨1, 24, false, [.emp], .sl 5 1 false⟩ := by kernel_rfl   -- []uint8
theorem ti23 : TI.of Try.prog 23 = some ⟨1, 24, false, [.emp], .sl 67 7 true⟩ := by kernel_rfl   -- []marblerunref05.Act
theorem ti25 : TI.of Try.prog 25 = some ⟨2, 48, true, [.emp, .emp], .st [(0, 1, false), (1, 1, false)]⟩ := by kernel_rfl   -- marblerunref05.Draft
theorem ti26 : TI.of Try.prog 26 = some ⟨1, 24, false, [.emp], .sl 3 1 false⟩ := by kernel_rfl   -- []int
theorem ti28 : TI.of Try.prog 28 = some ⟨1, 24, false, [.emp], .sl 45 2 true⟩ := by kernel_rfl   -- []api.Place
theorem ti29 : TI.of Try.prog 29 = some ⟨1, 24, false, [.emp], .sl 37 6 true⟩ := by kernel_rfl   -- []api.Trans
theorem ti31 : TI.of Try.prog 31 = some ⟨2, 48, true, [.emp, .emp], .st [(0, 1, false), (1, 1, false)]⟩ := by kernel_rfl   -- api.Net
theorem ti35 : TI.of Try.prog 35 = some ⟨1, 24, false, [.emp], .sl 49 2 true⟩ := by kernel_rfl   -- []api.Arc
theorem ti37 : TI.of Try.prog 37 = some ⟨6, 104, true, [.str ⟨#[]⟩, .int .i64 0, .int .i64 0, .emp, .emp, .emp], .st [(0, 1, false), (1, 1, false), (2, 1, false), (3, 1, false), (4, 1, false), (5, 1, false)]⟩ := by kernel_rfl   -- api.Trans
theorem ti45 : TI.of Try.prog 45 = some ⟨2, 24, true, [.str ⟨#[]⟩, .int .i64 0], .st [(0, 1, false), (1, 1, false)]⟩ := by kernel_rfl   -- api.Place
theorem ti49 : TI.of Try.prog 49 = some ⟨2, 16, true, [.int .i64 0, .int .i64 0], .st [(0, 1, false), (1, 1, false)]⟩ := by kernel_rfl   -- api.Arc
theorem ti51 : TI.of Try.prog 51 = some ⟨1, 24, false, [.emp], .sl 54 2 true⟩ := by kernel_rfl   -- [][2]int
theorem ti52 : TI.of Try.prog 52 = some ⟨1, 8, false, [.val (.pointer none)], .ptr 70⟩ := by kernel_rfl   -- *knit.Knit
theorem ti54 : TI.of Try.prog 54 = some ⟨2, 16, true, [.int .i64 0, .int .i64 0], .arr 2 1 false⟩ := by kernel_rfl   -- [2]int
theorem ti55 : TI.of Try.prog 55 = some ⟨1, 8, false, [.int .u64 0], .int .u64⟩ := by kernel_rfl   -- uint
theorem ti56 : TI.of Try.prog 56 = some ⟨1, 24, false, [.emp], .sl 26 1 false⟩ := by kernel_rfl   -- [][]int
theorem ti63 : TI.of Try.prog 63 = some ⟨1, 1, false, [.int .i8 0], .int .i8⟩ := by kernel_rfl   -- int8
theorem ti67 : TI.of Try.prog 67 = some ⟨7, 7, true, [.int .u8 0, .int .u8 0, .int .u8 0, .int .u8 0, .int .u8 0, .int .u8 0, .int .u8 0], .st [(0, 1, false), (1, 1, false), (2, 1, false), (3, 1, false), (4, 1, false), (5, 1, false), (6, 1, false)]⟩ := by kernel_rfl   -- marblerunref05.Act
theorem ti70 : TI.of Try.prog 70 = some ⟨1, 24, true, [.emp], .st [(0, 1, false)]⟩ := by kernel_rfl   -- knit.Knit
theorem ti72 : TI.of Try.prog 72 = some ⟨1, 8, false, [.val (.map none)], .mp 3 3⟩ := by kernel_rfl   -- map[int]int
theorem tis : type_of% (And.intro ti3 (And.intro ti4 (And.intro ti5 (And.intro ti9 (And.intro ti21 (And.intro ti22 (And.intro ti23 (And.intro ti25 (And.intro ti26 (And.intro ti28 (And.intro ti29 (And.intro ti31 (And.intro ti35 (And.intro ti37 (And.intro ti45 (And.intro ti49 (And.intro ti51 (And.intro ti52 (And.intro ti54 (And.intro ti55 (And.intro ti56 (And.intro ti63 (And.intro ti67 (And.intro ti70 (ti72))))))))))))))))))))))))) := And.intro ti3 (And.intro ti4 (And.intro ti5 (And.intro ti9 (And.intro ti21 (And.intro ti22 (And.intro ti23 (And.intro ti25 (And.intro ti26 (And.intro ti28 (And.intro ti29 (And.intro ti31 (And.intro ti35 (And.intro ti37 (And.intro ti45 (And.intro ti49 (And.intro ti51 (And.intro ti52 (And.intro ti54 (And.intro ti55 (And.intro ti56 (And.intro ti63 (And.intro ti67 (And.intro ti70 (ti72))))))))))))))))))))))))
end Go.Proofs.Ytgepmopnaomanaa
