/- The types of the program, as the calculus asks for them. -/
import Derived.Test.YtmolblphgbnddaaProg
import Derived.Test.YtmolblphgbnddaaFwU
namespace Go.Proofs.Ytmolblphgbnddaa
set_option linter.all false
open Go Go.Proofs.Ytmolblphgbnddaa.Fw
theorem mixed : Try.prog.follows .mixedOrders = true := by kernel_rfl
theorem ti3 : TI.of Try.prog 3 = some ⟨1, 8, false, [.int .i64 0], .int .i64⟩ := by kernel_rfl   -- int
theorem ti4 : TI.of Try.prog 4 = some ⟨1, 1, false, [.bool false], .bool⟩ := by kernel_rfl   -- bool
theorem ti5 : TI.of Try.prog 5 = some ⟨1, 1, false, [.int .u8 0], .int .u8⟩ := by kernel_rfl   -- uint8
theorem ti9 : TI.of Try.prog 9 = some ⟨1, 16, false, [.str ⟨#[]⟩], .str⟩ := by kernel_rfl   -- string
theorem ti21 : TI.of Try.prog 21 = some ⟨1, 4, false, [.int .i32 0], .int .i32⟩ := by kernel_rfl   -- int32
theorem ti22 : TI.of Try.prog 22 = some ⟨1, 24, false, [.emp], .sl 38 2 true⟩ := by kernel_rfl   -- []api.Place
theorem ti23 : TI.of Try.prog 23 = some ⟨1, 24, false, [.emp], .sl 42 6 true⟩ := by kernel_rfl   -- []api.Trans
theorem ti25 : TI.of Try.prog 25 = some ⟨2, 48, true, [.emp, .emp], .st [(0, 1, false), (1, 1, false)]⟩ := by kernel_rfl   -- api.Net
theorem ti28 : TI.of Try.prog 28 = some ⟨1, 8, false, [.int .i64 0], .int .i64⟩ := by kernel_rfl   -- api.Errno
theorem ti31 : TI.of Try.prog 31 = some ⟨1, 24, false, [.emp], .sl 5 1 false⟩ := by kernel_rfl   -- []uint8
theorem ti32 : TI.of Try.prog 32 = some ⟨1, 24, false, [.emp], .sl 78 7 true⟩ := by kernel_rfl   -- []marblerunref05.Act
theorem ti34 : TI.of Try.prog 34 = some ⟨2, 48, true, [.emp, .emp], .st [(0, 1, false), (1, 1, false)]⟩ := by kernel_rfl   -- marblerunref05.Draft
theorem ti38 : TI.of Try.prog 38 = some ⟨2, 24, true, [.str ⟨#[]⟩, .int .i64 0], .st [(0, 1, false), (1, 1, false)]⟩ := by kernel_rfl   -- api.Place
theorem ti40 : TI.of Try.prog 40 = some ⟨1, 24, false, [.emp], .sl 45 2 true⟩ := by kernel_rfl   -- []api.Arc
theorem ti42 : TI.of Try.prog 42 = some ⟨6, 104, true, [.str ⟨#[]⟩, .int .i64 0, .int .i64 0, .emp, .emp, .emp], .st [(0, 1, false), (1, 1, false), (2, 1, false), (3, 1, false), (4, 1, false), (5, 1, false)]⟩ := by kernel_rfl   -- api.Trans
theorem ti45 : TI.of Try.prog 45 = some ⟨2, 16, true, [.int .i64 0, .int .i64 0], .st [(0, 1, false), (1, 1, false)]⟩ := by kernel_rfl   -- api.Arc
theorem ti50 : TI.of Try.prog 50 = some ⟨1, 24, false, [.emp], .sl 9 1 false⟩ := by kernel_rfl   -- []string
theorem ti54 : TI.of Try.prog 54 = some ⟨1, 24, false, [.emp], .sl 3 1 false⟩ := by kernel_rfl   -- []int
theorem ti56 : TI.of Try.prog 56 = some ⟨3, 56, true, [.int .i64 0, .emp, .emp], .st [(0, 1, false), (1, 1, false), (2, 1, false)]⟩ := by kernel_rfl   -- part.Part
theorem ti64 : TI.of Try.prog 64 = some ⟨1, 24, false, [.emp], .sl 54 1 false⟩ := by kernel_rfl   -- [][]int
theorem ti75 : TI.of Try.prog 75 = some ⟨1, 24, false, [.emp], .sl 40 1 false⟩ := by kernel_rfl   -- [][]api.Arc
theorem ti78 : TI.of Try.prog 78 = some ⟨7, 7, true, [.int .u8 0, .int .u8 0, .int .u8 0, .int .u8 0, .int .u8 0, .int .u8 0, .int .u8 0], .st [(0, 1, false), (1, 1, false), (2, 1, false), (3, 1, false), (4, 1, false), (5, 1, false), (6, 1, false)]⟩ := by kernel_rfl   -- marblerunref05.Act
theorem ti85 : TI.of Try.prog 85 = some ⟨2, 48, true, [.emp, .emp], .arr 2 1 false⟩ := by kernel_rfl   -- [2][]int
theorem ti87 : TI.of Try.prog 87 = some ⟨1, 8, false, [.val (.pointer none)], .ptr 112⟩ := by kernel_rfl   -- *knit.Knit
theorem ti91 : TI.of Try.prog 91 = some ⟨1, 24, false, [.emp], .sl 92 2 true⟩ := by kernel_rfl   -- [][2]int
theorem ti92 : TI.of Try.prog 92 = some ⟨2, 16, true, [.int .i64 0, .int .i64 0], .arr 2 1 false⟩ := by kernel_rfl   -- [2]int
theorem ti103 : TI.of Try.prog 103 = some ⟨1, 8, false, [.val (.map none)], .mp 9 4⟩ := by kernel_rfl   -- map[string]bool
theorem ti105 : TI.of Try.prog 105 = some ⟨1, 24, false, [.emp], .sl 109 4 true⟩ := by kernel_rfl   -- []marblerunref04.Token
theorem ti109 : TI.of Try.prog 109 = some ⟨4, 40, true, [.int .u8 0, .str ⟨#[]⟩, .int .i64 0, .int .i64 0], .st [(0, 1, false), (1, 1, false), (2, 1, false), (3, 1, false)]⟩ := by kernel_rfl   -- marblerunref04.Token
theorem ti110 : TI.of Try.prog 110 = some ⟨2, 48, true, [.emp, .emp], .arr 2 1 false⟩ := by kernel_rfl   -- [2][]api.Arc
theorem ti112 : TI.of Try.prog 112 = some ⟨1, 24, true, [.emp], .st [(0, 1, false)]⟩ := by kernel_rfl   -- knit.Knit
theorem ti114 : TI.of Try.prog 114 = some ⟨1, 8, false, [.val (.map none)], .mp 3 3⟩ := by kernel_rfl   -- map[int]int
theorem feq38 : flatEq Try.prog 38 = some [.str, .int .i64] := by kernel_rfl   -- api.Place
theorem feq45 : flatEq Try.prog 45 = some [.int .i64, .int .i64] := by kernel_rfl   -- api.Arc
theorem feq78 : flatEq Try.prog 78 = some [.int .u8, .int .u8, .int .u8, .int .u8, .int .u8, .int .u8, .int .u8] := by kernel_rfl   -- marblerunref05.Act
theorem feq109 : flatEq Try.prog 109 = some [.int .u8, .str, .int .i64, .int .i64] := by kernel_rfl   -- marblerunref04.Token
theorem tis : type_of% (And.intro ti3 (And.intro ti4 (And.intro ti5 (And.intro ti9 (And.intro ti21 (And.intro ti22 (And.intro ti23 (And.intro ti25 (And.intro ti28 (And.intro ti31 (And.intro ti32 (And.intro ti34 (And.intro ti38 (And.intro ti40 (And.intro ti42 (And.intro ti45 (And.intro ti50 (And.intro ti54 (And.intro ti56 (And.intro ti64 (And.intro ti75 (And.intro ti78 (And.intro ti85 (And.intro ti87 (And.intro ti91 (And.intro ti92 (And.intro ti103 (And.intro ti105 (And.intro ti109 (And.intro ti110 (And.intro ti112 (And.intro ti114 (And.intro feq38 (And.intro feq45 (And.intro feq78 (feq109)))))))))))))))))))))))))))))))))))) := And.intro ti3 (And.intro ti4 (And.intro ti5 (And.intro ti9 (And.intro ti21 (And.intro ti22 (And.intro ti23 (And.intro ti25 (And.intro ti28 (And.intro ti31 (And.intro ti32 (And.intro ti34 (And.intro ti38 (And.intro ti40 (And.intro ti42 (And.intro ti45 (And.intro ti50 (And.intro ti54 (And.intro ti56 (And.intro ti64 (And.intro ti75 (And.intro ti78 (And.intro ti85 (And.intro ti87 (And.intro ti91 (And.intro ti92 (And.intro ti103 (And.intro ti105 (And.intro ti109 (And.intro ti110 (And.intro ti112 (And.intro ti114 (And.intro feq38 (And.intro feq45 (And.intro feq78 (feq109)))))))))))))))))))))))))))))))))))
end Go.Proofs.Ytmolblphgbnddaa
