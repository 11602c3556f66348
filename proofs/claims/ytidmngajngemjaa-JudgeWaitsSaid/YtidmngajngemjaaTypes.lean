/- The types of the program, as the calculus asks for them. -/
import Derived.Test.YtidmngajngemjaaProg
import Derived.Test.YtidmngajngemjaaFwU
namespace Go.Proofs.Ytidmngajngemjaa
set_option linter.all false
open Go Go.Proofs.Ytidmngajngemjaa.Fw
theorem mixed : Try.prog.follows .mixedOrders = true := by kernel_rfl
theorem ti3 : TI.of Try.prog 3 = some ⟨1, 8, false, [.int .i64 0], .int .i64⟩ := by kernel_rfl   -- int
theorem ti4 : TI.of Try.prog 4 = some ⟨1, 1, false, [.bool false], .bool⟩ := by kernel_rfl   -- bool
theorem ti5 : TI.of Try.prog 5 = some ⟨1, 1, false, [.int .u8 0], .int .u8⟩ := by kernel_rfl   -- uint8
theorem ti9 : TI.of Try.prog 9 = some ⟨1, 16, false, [.str ⟨#[]⟩], .str⟩ := by kernel_rfl   -- string
theorem ti21 : TI.of Try.prog 21 = some ⟨1, 4, false, [.int .i32 0], .int .i32⟩ := by kernel_rfl   -- int32
theorem ti22 : TI.of Try.prog 22 = some ⟨1, 24, false, [.emp], .sl 5 1 false⟩ := by kernel_rfl   -- []uint8
theorem ti23 : TI.of Try.prog 23 = some ⟨1, 24, false, [.emp], .sl 78 7 true⟩ := by kernel_rfl   -- []marblerunref05.Act
theorem ti25 : TI.of Try.prog 25 = some ⟨2, 48, true, [.emp, .emp], .st [(0, 1, false), (1, 1, false)]⟩ := by kernel_rfl   -- marblerunref05.Draft
theorem ti27 : TI.of Try.prog 27 = some ⟨2, 16, true, [.int .i64 0, .int .i64 0], .st [(0, 1, false), (1, 1, false)]⟩ := by kernel_rfl   -- api.Fire
theorem ti30 : TI.of Try.prog 30 = some ⟨1, 24, false, [.emp], .sl 48 2 true⟩ := by kernel_rfl   -- []api.Place
theorem ti31 : TI.of Try.prog 31 = some ⟨1, 24, false, [.emp], .sl 55 6 true⟩ := by kernel_rfl   -- []api.Trans
theorem ti33 : TI.of Try.prog 33 = some ⟨2, 48, true, [.emp, .emp], .st [(0, 1, false), (1, 1, false)]⟩ := by kernel_rfl   -- api.Net
theorem ti35 : TI.of Try.prog 35 = some ⟨1, 24, false, [.emp], .sl 27 2 true⟩ := by kernel_rfl   -- []api.Fire
theorem ti36 : TI.of Try.prog 36 = some ⟨1, 24, false, [.emp], .sl 3 1 false⟩ := by kernel_rfl   -- []int
theorem ti38 : TI.of Try.prog 38 = some ⟨4, 80, true, [.emp, .emp, .emp, .int .i64 0], .st [(0, 1, false), (1, 1, false), (2, 1, false), (3, 1, false)]⟩ := by kernel_rfl   -- api.Result
theorem ti41 : TI.of Try.prog 41 = some ⟨1, 8, false, [.int .i64 0], .int .i64⟩ := by kernel_rfl   -- api.Errno
theorem ti46 : TI.of Try.prog 46 = some ⟨1, 8, false, [.int .u64 0], .int .u64⟩ := by kernel_rfl   -- uint
theorem ti48 : TI.of Try.prog 48 = some ⟨2, 24, true, [.str ⟨#[]⟩, .int .i64 0], .st [(0, 1, false), (1, 1, false)]⟩ := by kernel_rfl   -- api.Place
theorem ti49 : TI.of Try.prog 49 = some ⟨1, 24, false, [.emp], .sl 51 3 true⟩ := by kernel_rfl   -- []api.Event
theorem ti51 : TI.of Try.prog 51 = some ⟨3, 24, true, [.int .i64 0, .int .i64 0, .int .i64 0], .st [(0, 1, false), (1, 1, false), (2, 1, false)]⟩ := by kernel_rfl   -- api.Event
theorem ti53 : TI.of Try.prog 53 = some ⟨1, 24, false, [.emp], .sl 57 2 true⟩ := by kernel_rfl   -- []api.Arc
theorem ti55 : TI.of Try.prog 55 = some ⟨6, 104, true, [.str ⟨#[]⟩, .int .i64 0, .int .i64 0, .emp, .emp, .emp], .st [(0, 1, false), (1, 1, false), (2, 1, false), (3, 1, false), (4, 1, false), (5, 1, false)]⟩ := by kernel_rfl   -- api.Trans
theorem ti57 : TI.of Try.prog 57 = some ⟨2, 16, true, [.int .i64 0, .int .i64 0], .st [(0, 1, false), (1, 1, false)]⟩ := by kernel_rfl   -- api.Arc
theorem ti75 : TI.of Try.prog 75 = some ⟨1, 24, false, [.emp], .sl 4 1 false⟩ := by kernel_rfl   -- []bool
theorem ti78 : TI.of Try.prog 78 = some ⟨7, 7, true, [.int .u8 0, .int .u8 0, .int .u8 0, .int .u8 0, .int .u8 0, .int .u8 0, .int .u8 0], .st [(0, 1, false), (1, 1, false), (2, 1, false), (3, 1, false), (4, 1, false), (5, 1, false), (6, 1, false)]⟩ := by kernel_rfl   -- marblerunref05.Act
theorem ti83 : TI.of Try.prog 83 = some ⟨1, 8, false, [.val (.pointer none)], .ptr 38⟩ := by kernel_rfl   -- *api.Result
theorem ti86 : TI.of Try.prog 86 = some ⟨1, 24, false, [.emp], .sl 36 1 false⟩ := by kernel_rfl   -- [][]int
theorem ti88 : TI.of Try.prog 88 = some ⟨1, 8, false, [.val (.pointer none)], .ptr 90⟩ := by kernel_rfl   -- *plain.run
theorem ti90 : TI.of Try.prog 90 = some ⟨8, 176, true, [.emp, .emp, .emp, .emp, .emp, .int .i64 0, .emp, .emp], .st [(0, 2, true), (2, 4, true), (6, 1, false), (7, 1, false)]⟩ := by kernel_rfl   -- plain.run
theorem ti94 : TI.of Try.prog 94 = some ⟨1, 24, false, [.emp], .sl 9 1 false⟩ := by kernel_rfl   -- []string
theorem ti96 : TI.of Try.prog 96 = some ⟨1, 24, false, [.emp], .sl 53 1 false⟩ := by kernel_rfl   -- [][]api.Arc
theorem ti104 : TI.of Try.prog 104 = some ⟨1, 24, false, [.emp], .sl 105 2 true⟩ := by kernel_rfl   -- [][2]int
theorem ti105 : TI.of Try.prog 105 = some ⟨2, 16, true, [.int .i64 0, .int .i64 0], .arr 2 1 false⟩ := by kernel_rfl   -- [2]int
theorem ti109 : TI.of Try.prog 109 = some ⟨1, 24, false, [.emp], .sl 113 4 true⟩ := by kernel_rfl   -- []marblerunref04.Token
theorem ti113 : TI.of Try.prog 113 = some ⟨4, 40, true, [.int .u8 0, .str ⟨#[]⟩, .int .i64 0, .int .i64 0], .st [(0, 1, false), (1, 1, false), (2, 1, false), (3, 1, false)]⟩ := by kernel_rfl   -- marblerunref04.Token
theorem ti116 : TI.of Try.prog 116 = some ⟨1, 8, false, [.val (.map none)], .mp 9 4⟩ := by kernel_rfl   -- map[string]bool
theorem feq27 : flatEq Try.prog 27 = some [.int .i64, .int .i64] := by kernel_rfl   -- api.Fire
theorem feq48 : flatEq Try.prog 48 = some [.str, .int .i64] := by kernel_rfl   -- api.Place
theorem feq51 : flatEq Try.prog 51 = some [.int .i64, .int .i64, .int .i64] := by kernel_rfl   -- api.Event
theorem feq57 : flatEq Try.prog 57 = some [.int .i64, .int .i64] := by kernel_rfl   -- api.Arc
theorem feq78 : flatEq Try.prog 78 = some [.int .u8, .int .u8, .int .u8, .int .u8, .int .u8, .int .u8, .int .u8] := by kernel_rfl   -- marblerunref05.Act
theorem feq113 : flatEq Try.prog 113 = some [.int .u8, .str, .int .i64, .int .i64] := by kernel_rfl   -- marblerunref04.Token
theorem tis : type_of% (And.intro ti3 (And.intro ti4 (And.intro ti5 (And.intro ti9 (And.intro ti21 (And.intro ti22 (And.intro ti23 (And.intro ti25 (And.intro ti27 (And.intro ti30 (And.intro ti31 (And.intro ti33 (And.intro ti35 (And.intro ti36 (And.intro ti38 (And.intro ti41 (And.intro ti46 (And.intro ti48 (And.intro ti49 (And.intro ti51 (And.intro ti53 (And.intro ti55 (And.intro ti57 (And.intro ti75 (And.intro ti78 (And.intro ti83 (And.intro ti86 (And.intro ti88 (And.intro ti90 (And.intro ti94 (And.intro ti96 (And.intro ti104 (And.intro ti105 (And.intro ti109 (And.intro ti113 (And.intro ti116 (And.intro feq27 (And.intro feq48 (And.intro feq51 (And.intro feq57 (And.intro feq78 (feq113)))))))))))))))))))))))))))))))))))))))))) := And.intro ti3 (And.intro ti4 (And.intro ti5 (And.intro ti9 (And.intro ti21 (And.intro ti22 (And.intro ti23 (And.intro ti25 (And.intro ti27 (And.intro ti30 (And.intro ti31 (And.intro ti33 (And.intro ti35 (And.intro ti36 (And.intro ti38 (And.intro ti41 (And.intro ti46 (And.intro ti48 (And.intro ti49 (And.intro ti51 (And.intro ti53 (And.intro ti55 (And.intro ti57 (And.intro ti75 (And.intro ti78 (And.intro ti83 (And.intro ti86 (And.intro ti88 (And.intro ti90 (And.intro ti94 (And.intro ti96 (And.intro ti104 (And.intro ti105 (And.intro ti109 (And.intro ti113 (And.intro ti116 (And.intro feq27 (And.intro feq48 (And.intro feq51 (And.intro feq57 (And.intro feq78 (feq113)))))))))))))))))))))))))))))))))))))))))
end Go.Proofs.Ytidmngajngemjaa
