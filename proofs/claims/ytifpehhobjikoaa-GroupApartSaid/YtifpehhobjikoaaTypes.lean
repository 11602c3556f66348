/- The types of the program, as the calculus asks for them. -/
import Derived.Test.YtifpehhobjikoaaProg
import Derived.Test.YtifpehhobjikoaaFwU
namespace Go.Proofs.Ytifpehhobjikoaa
set_option linter.all false
open Go Go.Proofs.Ytifpehhobjikoaa.Fw
theorem mixed : Try.prog.follows .mixedOrders = true := by kernel_rfl
theorem ti3 : TI.of Try.prog 3 = some ⟨1, 8, false, [.int .i64 0], .int .i64⟩ := by kernel_rfl   -- int
theorem ti4 : TI.of Try.prog 4 = some ⟨1, 1, false, [.bool false], .bool⟩ := by kernel_rfl   -- bool
theorem ti5 : TI.of Try.prog 5 = some ⟨1, 1, false, [.int .u8 0], .int .u8⟩ := by kernel_rfl   -- uint8
theorem ti9 : TI.of Try.prog 9 = some ⟨1, 16, false, [.str ⟨#[]⟩], .str⟩ := by kernel_rfl   -- string
theorem ti21 : TI.of Try.prog 21 = some ⟨1, 4, false, [.int .i32 0], .int .i32⟩ := by kernel_rfl   -- int32
theorem ti22 : TI.of Try.prog 22 = some ⟨1, 24, false, [.emp], .sl 26 2 true⟩ := by kernel_rfl   -- [][2]int
theorem ti24 : TI.of Try.prog 24 = some ⟨1, 8, false, [.val (.pointer none)], .ptr 77⟩ := by kernel_rfl   -- *knit.Knit
theorem ti26 : TI.of Try.prog 26 = some ⟨2, 16, true, [.int .i64 0, .int .i64 0], .arr 2 1 false⟩ := by kernel_rfl   -- [2]int
theorem ti27 : TI.of Try.prog 27 = some ⟨1, 8, false, [.int .u64 0], .int .u64⟩ := by kernel_rfl   -- uint
theorem ti28 : TI.of Try.prog 28 = some ⟨1, 24, false, [.emp], .sl 33 1 false⟩ := by kernel_rfl   -- [][]int
theorem ti33 : TI.of Try.prog 33 = some ⟨1, 24, false, [.emp], .sl 3 1 false⟩ := by kernel_rfl   -- []int
theorem ti36 : TI.of Try.prog 36 = some ⟨1, 1, false, [.int .i8 0], .int .i8⟩ := by kernel_rfl   -- int8
theorem ti39 : TI.of Try.prog 39 = some ⟨1, 24, false, [.emp], .sl 40 2 true⟩ := by kernel_rfl   -- [][2]uint8
theorem ti40 : TI.of Try.prog 40 = some ⟨2, 2, true, [.int .u8 0, .int .u8 0], .arr 2 1 false⟩ := by kernel_rfl   -- [2]uint8
theorem ti43 : TI.of Try.prog 43 = some ⟨1, 24, false, [.emp], .sl 5 1 false⟩ := by kernel_rfl   -- []uint8
theorem ti44 : TI.of Try.prog 44 = some ⟨1, 24, false, [.emp], .sl 81 7 true⟩ := by kernel_rfl   -- []marblerunref05.Act
theorem ti46 : TI.of Try.prog 46 = some ⟨2, 48, true, [.emp, .emp], .st [(0, 1, false), (1, 1, false)]⟩ := by kernel_rfl   -- marblerunref05.Draft
theorem ti47 : TI.of Try.prog 47 = some ⟨1, 24, false, [.emp], .sl 54 1 false⟩ := by kernel_rfl   -- [][]api.Fire
theorem ti49 : TI.of Try.prog 49 = some ⟨1, 24, false, [.emp], .sl 68 2 true⟩ := by kernel_rfl   -- []api.Place
theorem ti50 : TI.of Try.prog 50 = some ⟨1, 24, false, [.emp], .sl 62 6 true⟩ := by kernel_rfl   -- []api.Trans
theorem ti52 : TI.of Try.prog 52 = some ⟨2, 48, true, [.emp, .emp], .st [(0, 1, false), (1, 1, false)]⟩ := by kernel_rfl   -- api.Net
theorem ti54 : TI.of Try.prog 54 = some ⟨1, 24, false, [.emp], .sl 56 2 true⟩ := by kernel_rfl   -- []api.Fire
theorem ti56 : TI.of Try.prog 56 = some ⟨2, 16, true, [.int .i64 0, .int .i64 0], .st [(0, 1, false), (1, 1, false)]⟩ := by kernel_rfl   -- api.Fire
theorem ti57 : TI.of Try.prog 57 = some ⟨1, 8, false, [.int .i64 0], .int .i64⟩ := by kernel_rfl   -- api.Errno
theorem ti60 : TI.of Try.prog 60 = some ⟨1, 24, false, [.emp], .sl 70 2 true⟩ := by kernel_rfl   -- []api.Arc
theorem ti62 : TI.of Try.prog 62 = some ⟨6, 104, true, [.str ⟨#[]⟩, .int .i64 0, .int .i64 0, .emp, .emp, .emp], .st [(0, 1, false), (1, 1, false), (2, 1, false), (3, 1, false), (4, 1, false), (5, 1, false)]⟩ := by kernel_rfl   -- api.Trans
theorem ti68 : TI.of Try.prog 68 = some ⟨2, 24, true, [.str ⟨#[]⟩, .int .i64 0], .st [(0, 1, false), (1, 1, false)]⟩ := by kernel_rfl   -- api.Place
theorem ti70 : TI.of Try.prog 70 = some ⟨2, 16, true, [.int .i64 0, .int .i64 0], .st [(0, 1, false), (1, 1, false)]⟩ := by kernel_rfl   -- api.Arc
theorem ti77 : TI.of Try.prog 77 = some ⟨1, 24, true, [.emp], .st [(0, 1, false)]⟩ := by kernel_rfl   -- knit.Knit
theorem ti79 : TI.of Try.prog 79 = some ⟨1, 8, false, [.val (.map none)], .mp 3 3⟩ := by kernel_rfl   -- map[int]int
theorem ti81 : TI.of Try.prog 81 = some ⟨7, 7, true, [.int .u8 0, .int .u8 0, .int .u8 0, .int .u8 0, .int .u8 0, .int .u8 0, .int .u8 0], .st [(0, 1, false), (1, 1, false), (2, 1, false), (3, 1, false), (4, 1, false), (5, 1, false), (6, 1, false)]⟩ := by kernel_rfl   -- marblerunref05.Act
theorem ti83 : TI.of Try.prog 83 = some ⟨1, 8, false, [.val (.pointer none)], .ptr 86⟩ := by kernel_rfl   -- *merge.heads
theorem ti86 : TI.of Try.prog 86 = some ⟨3, 72, true, [.emp, .emp, .emp], .st [(0, 2, true), (2, 1, false)]⟩ := by kernel_rfl   -- merge.heads
theorem ti91 : TI.of Try.prog 91 = some ⟨2, 48, true, [.emp, .emp], .arr 2 1 false⟩ := by kernel_rfl   -- [2][]api.Arc
theorem tis : type_of% (And.intro ti3 (And.intro ti4 (And.intro ti5 (And.intro ti9 (And.intro ti21 (And.intro ti22 (And.intro ti24 (And.intro ti26 (And.intro ti27 (And.intro ti28 (And.intro ti33 (And.intro ti36 (And.intro ti39 (And.intro ti40 (And.intro ti43 (And.intro ti44 (And.intro ti46 (And.intro ti47 (And.intro ti49 (And.intro ti50 (And.intro ti52 (And.intro ti54 (And.intro ti56 (And.intro ti57 (And.intro ti60 (And.intro ti62 (And.intro ti68 (And.intro ti70 (And.intro ti77 (And.intro ti79 (And.intro ti81 (And.intro ti83 (And.intro ti86 (ti91)))))))))))))))))))))))))))))))))) := And.intro ti3 (And.intro ti4 (And.intro ti5 (And.intro ti9 (And.intro ti21 (And.intro ti22 (And.intro ti24 (And.intro ti26 (And.intro ti27 (And.intro ti28 (And.intro ti33 (And.intro ti36 (And.intro ti39 (And.intro ti40 (And.intro ti43 (And.intro ti44 (And.intro ti46 (And.intro ti47 (And.intro ti49 (And.intro ti50 (And.intro ti52 (And.intro ti54 (And.intro ti56 (And.intro ti57 (And.intro ti60 (And.intro ti62 (And.intro ti68 (And.intro ti70 (And.intro ti77 (And.intro ti79 (And.intro ti81 (And.intro ti83 (And.intro ti86 (ti91)))))))))))))))))))))))))))))))))
end Go.Proofs.Ytifpehhobjikoaa
