/- The types of the program, as the calculus asks for them. -/
import Derived.Test.YtecndlekckbcjaaProg
import Derived.Test.YtecndlekckbcjaaFwU
namespace Go.Proofs.Ytecndlekckbcjaa
set_option linter.all false
open Go Go.Proofs.Ytecndlekckbcjaa.Fw
theorem mixed : Try.prog.follows .mixedOrders = true := by kernel_rfl
theorem ti3 : TI.of Try.prog 3 = some ⟨1, 8, false, [.int .i64 0], .int .i64⟩ := by kernel_rfl   -- int
theorem ti4 : TI.of Try.prog 4 = some ⟨1, 1, false, [.bool false], .bool⟩ := by kernel_rfl   -- bool
theorem ti5 : TI.of Try.prog 5 = some ⟨1, 1, false, [.int .u8 0], .int .u8⟩ := by kernel_rfl   -- uint8
theorem ti9 : TI.of Try.prog 9 = some ⟨1, 16, false, [.str ⟨#[]⟩], .str⟩ := by kernel_rfl   -- string
theorem ti21 : TI.of Try.prog 21 = some ⟨1, 4, false, [.int .i32 0], .int .i32⟩ := by kernel_rfl   -- int32
theorem ti22 : TI.of Try.prog 22 = some ⟨1, 24, false, [.emp], .sl 27 2 true⟩ := by kernel_rfl   -- []api.Place
theorem ti23 : TI.of Try.prog 23 = some ⟨1, 24, false, [.emp], .sl 32 6 true⟩ := by kernel_rfl   -- []api.Trans
theorem ti25 : TI.of Try.prog 25 = some ⟨2, 48, true, [.emp, .emp], .st [(0, 1, false), (1, 1, false)]⟩ := by kernel_rfl   -- api.Net
theorem ti27 : TI.of Try.prog 27 = some ⟨2, 24, true, [.str ⟨#[]⟩, .int .i64 0], .st [(0, 1, false), (1, 1, false)]⟩ := by kernel_rfl   -- api.Place
theorem ti29 : TI.of Try.prog 29 = some ⟨2, 16, true, [.int .i64 0, .int .i64 0], .st [(0, 1, false), (1, 1, false)]⟩ := by kernel_rfl   -- api.Arc
theorem ti30 : TI.of Try.prog 30 = some ⟨1, 24, false, [.emp], .sl 29 2 true⟩ := by kernel_rfl   -- []api.Arc
theorem ti32 : TI.of Try.prog 32 = some ⟨6, 104, true, [.str ⟨#[]⟩, .int .i64 0, .int .i64 0, .emp, .emp, .emp], .st [(0, 1, false), (1, 1, false), (2, 1, false), (3, 1, false), (4, 1, false), (5, 1, false)]⟩ := by kernel_rfl   -- api.Trans
theorem ti34 : TI.of Try.prog 34 = some ⟨1, 24, false, [.emp], .sl 36 1 false⟩ := by kernel_rfl   -- [][]int
theorem ti36 : TI.of Try.prog 36 = some ⟨1, 24, false, [.emp], .sl 3 1 false⟩ := by kernel_rfl   -- []int
theorem ti41 : TI.of Try.prog 41 = some ⟨1, 8, false, [.int .i64 0], .int .i64⟩ := by kernel_rfl   -- api.Errno
theorem ti44 : TI.of Try.prog 44 = some ⟨1, 24, false, [.emp], .sl 5 1 false⟩ := by kernel_rfl   -- []uint8
theorem ti45 : TI.of Try.prog 45 = some ⟨1, 24, false, [.emp], .sl 93 7 true⟩ := by kernel_rfl   -- []marblerunref05.Act
theorem ti47 : TI.of Try.prog 47 = some ⟨2, 48, true, [.emp, .emp], .st [(0, 1, false), (1, 1, false)]⟩ := by kernel_rfl   -- marblerunref05.Draft
theorem ti53 : TI.of Try.prog 53 = some ⟨1, 8, false, [.int .u64 0], .int .u64⟩ := by kernel_rfl   -- uint
theorem ti54 : TI.of Try.prog 54 = some ⟨1, 8, false, [.val (.pointer none)], .ptr 105⟩ := by kernel_rfl   -- *tray.Ring[int]
theorem ti60 : TI.of Try.prog 60 = some ⟨1, 8, false, [.val (.pointer none)], .ptr 107⟩ := by kernel_rfl   -- *tray.Ring[string]
theorem ti68 : TI.of Try.prog 68 = some ⟨1, 24, false, [.emp], .sl 79 2 true⟩ := by kernel_rfl   -- []api.Fire
theorem ti70 : TI.of Try.prog 70 = some ⟨4, 80, true, [.emp, .emp, .emp, .int .i64 0], .st [(0, 1, false), (1, 1, false), (2, 1, false), (3, 1, false)]⟩ := by kernel_rfl   -- api.Result
theorem ti74 : TI.of Try.prog 74 = some ⟨1, 24, false, [.emp], .sl 4 1 false⟩ := by kernel_rfl   -- []bool
theorem ti79 : TI.of Try.prog 79 = some ⟨2, 16, true, [.int .i64 0, .int .i64 0], .st [(0, 1, false), (1, 1, false)]⟩ := by kernel_rfl   -- api.Fire
theorem ti81 : TI.of Try.prog 81 = some ⟨1, 8, false, [.val (.pointer none)], .ptr 125⟩ := by kernel_rfl   -- *knit.Knit
theorem ti83 : TI.of Try.prog 83 = some ⟨1, 8, false, [.val (.map none)], .mp 3 3⟩ := by kernel_rfl   -- map[int]int
theorem ti89 : TI.of Try.prog 89 = some ⟨1, 24, false, [.emp], .sl 9 1 false⟩ := by kernel_rfl   -- []string
theorem ti90 : TI.of Try.prog 90 = some ⟨1, 24, false, [.emp], .sl 30 1 false⟩ := by kernel_rfl   -- [][]api.Arc
theorem ti93 : TI.of Try.prog 93 = some ⟨7, 7, true, [.int .u8 0, .int .u8 0, .int .u8 0, .int .u8 0, .int .u8 0, .int .u8 0, .int .u8 0], .st [(0, 1, false), (1, 1, false), (2, 1, false), (3, 1, false), (4, 1, false), (5, 1, false), (6, 1, false)]⟩ := by kernel_rfl   -- marblerunref05.Act
theorem ti95 : TI.of Try.prog 95 = some ⟨1, 8, false, [.val (.pointer none)], .ptr 98⟩ := by kernel_rfl   -- *tray.Heap
theorem ti96 : TI.of Try.prog 96 = some ⟨1, 24, false, [.emp], .sl 101 4 true⟩ := by kernel_rfl   -- []tray.Key
theorem ti98 : TI.of Try.prog 98 = some ⟨1, 24, true, [.emp], .st [(0, 1, false)]⟩ := by kernel_rfl   -- tray.Heap
theorem ti101 : TI.of Try.prog 101 = some ⟨4, 32, true, [.int .i64 0, .int .i64 0, .int .i64 0, .int .i64 0], .st [(0, 1, false), (1, 1, false), (2, 1, false), (3, 1, false)]⟩ := by kernel_rfl   -- tray.Key
theorem ti105 : TI.of Try.prog 105 = some ⟨3, 40, true, [.emp, .int .i64 0, .int .i64 0], .st [(0, 1, false), (1, 1, false), (2, 1, false)]⟩ := by kernel_rfl   -- tray.Ring[int]
theorem ti107 : TI.of Try.prog 107 = some ⟨3, 40, true, [.emp, .int .i64 0, .int .i64 0], .st [(0, 1, false), (1, 1, false), (2, 1, false)]⟩ := by kernel_rfl   -- tray.Ring[string]
theorem ti118 : TI.of Try.prog 118 = some ⟨1, 24, false, [.emp], .sl 120 3 true⟩ := by kernel_rfl   -- []api.Event
theorem ti120 : TI.of Try.prog 120 = some ⟨3, 24, true, [.int .i64 0, .int .i64 0, .int .i64 0], .st [(0, 1, false), (1, 1, false), (2, 1, false)]⟩ := by kernel_rfl   -- api.Event
theorem ti125 : TI.of Try.prog 125 = some ⟨1, 24, true, [.emp], .st [(0, 1, false)]⟩ := by kernel_rfl   -- knit.Knit
theorem ti126 : TI.of Try.prog 126 = some ⟨2, 48, true, [.emp, .emp], .arr 2 1 false⟩ := by kernel_rfl   -- [2][]api.Arc
theorem ti130 : TI.of Try.prog 130 = some ⟨1, 8, false, [.val (.map none)], .mp 9 4⟩ := by kernel_rfl   -- map[string]bool
theorem ti133 : TI.of Try.prog 133 = some ⟨1, 24, false, [.emp], .sl 137 4 true⟩ := by kernel_rfl   -- []marblerunref04.Token
theorem ti137 : TI.of Try.prog 137 = some ⟨4, 40, true, [.int .u8 0, .str ⟨#[]⟩, .int .i64 0, .int .i64 0], .st [(0, 1, false), (1, 1, false), (2, 1, false), (3, 1, false)]⟩ := by kernel_rfl   -- marblerunref04.Token
theorem ti140 : TI.of Try.prog 140 = some ⟨1, 8, false, [.val (.pointer none)], .ptr 70⟩ := by kernel_rfl   -- *api.Result
theorem ti149 : TI.of Try.prog 149 = some ⟨2, 16, true, [.int .i64 0, .int .i64 0], .arr 2 1 false⟩ := by kernel_rfl   -- [2]int
theorem feq27 : flatEq Try.prog 27 = some [.str, .int .i64] := by kernel_rfl   -- api.Place
theorem feq29 : flatEq Try.prog 29 = some [.int .i64, .int .i64] := by kernel_rfl   -- api.Arc
theorem feq79 : flatEq Try.prog 79 = some [.int .i64, .int .i64] := by kernel_rfl   -- api.Fire
theorem feq93 : flatEq Try.prog 93 = some [.int .u8, .int .u8, .int .u8, .int .u8, .int .u8, .int .u8, .int .u8] := by kernel_rfl   -- marblerunref05.Act
theorem feq101 : flatEq Try.prog 101 = some [.int .i64, .int .i64, .int .i64, .int .i64] := by kernel_rfl   -- tray.Key
theorem feq120 : flatEq Try.prog 120 = some [.int .i64, .int .i64, .int .i64] := by kernel_rfl   -- api.Event
theorem feq137 : flatEq Try.prog 137 = some [.int .u8, .str, .int .i64, .int .i64] := by kernel_rfl   -- marblerunref04.Token
theorem tis : type_of% (And.intro ti3 (And.intro ti4 (And.intro ti5 (And.intro ti9 (And.intro ti21 (And.intro ti22 (And.intro ti23 (And.intro ti25 (And.intro ti27 (And.intro ti29 (And.intro ti30 (And.intro ti32 (And.intro ti34 (And.intro ti36 (And.intro ti41 (And.intro ti44 (And.intro ti45 (And.intro ti47 (And.intro ti53 (And.intro ti54 (And.intro ti60 (And.intro ti68 (And.intro ti70 (And.intro ti74 (And.intro ti79 (And.intro ti81 (And.intro ti83 (And.intro ti89 (And.intro ti90 (And.intro ti93 (And.intro ti95 (And.intro ti96 (And.intro ti98 (And.intro ti101 (And.intro ti105 (And.intro ti107 (And.intro ti118 (And.intro ti120 (And.intro ti125 (And.intro ti126 (And.intro ti130 (And.intro ti133 (And.intro ti137 (And.intro ti140 (And.intro ti149 (And.intro feq27 (And.intro feq29 (And.intro feq79 (And.intro feq93 (And.intro feq101 (And.intro feq120 (feq137)))))))))))))))))))))))))))))))))))))))))))))))))))) := And.intro ti3 (And.intro ti4 (And.intro ti5 (And.intro ti9 (And.intro ti21 (And.intro ti22 (And.intro ti23 (And.intro ti25 (And.intro ti27 (And.intro ti29 (And.intro ti30 (And.intro ti32 (And.intro ti34 (And.intro ti36 (And.intro ti41 (And.intro ti44 (And.intro ti45 (And.intro ti47 (And.intro ti53 (And.intro ti54 (And.intro ti60 (And.intro ti68 (And.intro ti70 (And.intro ti74 (And.intro ti79 (And.intro ti81 (And.intro ti83 (And.intro ti89 (And.intro ti90 (And.intro ti93 (And.intro ti95 (And.intro ti96 (And.intro ti98 (And.intro ti101 (And.intro ti105 (And.intro ti107 (And.intro ti118 (And.intro ti120 (And.intro ti125 (And.intro ti126 (And.intro ti130 (And.intro ti133 (And.intro ti137 (And.intro ti140 (And.intro ti149 (And.intro feq27 (And.intro feq29 (And.intro feq79 (And.intro feq93 (And.intro feq101 (And.intro feq120 (feq137)))))))))))))))))))))))))))))))))))))))))))))))))))
end Go.Proofs.Ytecndlekckbcjaa
