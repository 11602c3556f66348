/- The types of the program, as the calculus asks for them. -/
import Derived.Test.YtjbhjjmkgakphaaProg
import Derived.Test.YtjbhjjmkgakphaaFwU
namespace Go.Proofs.Ytjbhjjmkgakphaa
set_option linter.all false
open Go Go.Proofs.Ytjbhjjmkgakphaa.Fw
theorem mixed : Try.prog.follows .mixedOrders = true := by kernel_rfl
theorem ti3 : TI.of Try.prog 3 = some ⟨1, 8, false, [.int .i64 0], .int .i64⟩ := by kernel_rfl   -- int
theorem ti4 : TI.of Try.prog 4 = some ⟨1, 1, false, [.bool false], .bool⟩ := by kernel_rfl   -- bool
theorem ti5 : TI.of Try.prog 5 = some ⟨1, 1, false, [.int .u8 0], .int .u8⟩ := by kernel_rfl   -- uint8
theorem ti9 : TI.of Try.prog 9 = some ⟨1, 16, false, [.str ⟨#[]⟩], .str⟩ := by kernel_rfl   -- string
theorem ti21 : TI.of Try.prog 21 = some ⟨1, 4, false, [.int .i32 0], .int .i32⟩ := by kernel_rfl   -- int32
theorem ti23 : TI.of Try.prog 23 = some ⟨4, 32, true, [.int .i64 0, .int .i64 0, .int .i64 0, .int .i64 0], .st [(0, 1, false), (1, 1, false), (2, 1, false), (3, 1, false)]⟩ := by kernel_rfl   -- tray.Key
theorem ti28 : TI.of Try.prog 28 = some ⟨1, 24, false, [.emp], .sl 23 4 true⟩ := by kernel_rfl   -- []tray.Key
theorem ti29 : TI.of Try.prog 29 = some ⟨1, 24, false, [.emp], .sl 5 1 false⟩ := by kernel_rfl   -- []uint8
theorem ti30 : TI.of Try.prog 30 = some ⟨1, 8, false, [.val (.pointer none)], .ptr 32⟩ := by kernel_rfl   -- *tray.Heap
theorem ti32 : TI.of Try.prog 32 = some ⟨1, 24, true, [.emp], .st [(0, 1, false)]⟩ := by kernel_rfl   -- tray.Heap
theorem ti40 : TI.of Try.prog 40 = some ⟨1, 8, false, [.int .u64 0], .int .u64⟩ := by kernel_rfl   -- uint
theorem ti41 : TI.of Try.prog 41 = some ⟨1, 8, false, [.val (.pointer none)], .ptr 57⟩ := by kernel_rfl   -- *tray.Ring[int]
theorem ti43 : TI.of Try.prog 43 = some ⟨1, 24, false, [.emp], .sl 3 1 false⟩ := by kernel_rfl   -- []int
theorem ti47 : TI.of Try.prog 47 = some ⟨1, 8, false, [.val (.pointer none)], .ptr 60⟩ := by kernel_rfl   -- *tray.Ring[string]
theorem ti52 : TI.of Try.prog 52 = some ⟨1, 2, false, [.int .u16 0], .int .u16⟩ := by kernel_rfl   -- uint16
theorem ti57 : TI.of Try.prog 57 = some ⟨3, 40, true, [.emp, .int .i64 0, .int .i64 0], .st [(0, 1, false), (1, 1, false), (2, 1, false)]⟩ := by kernel_rfl   -- tray.Ring[int]
theorem ti58 : TI.of Try.prog 58 = some ⟨1, 24, false, [.emp], .sl 9 1 false⟩ := by kernel_rfl   -- []string
theorem ti60 : TI.of Try.prog 60 = some ⟨3, 40, true, [.emp, .int .i64 0, .int .i64 0], .st [(0, 1, false), (1, 1, false), (2, 1, false)]⟩ := by kernel_rfl   -- tray.Ring[string]
theorem ti61 : TI.of Try.prog 61 = some ⟨2, 16, true, [.int .i64 0, .int .i64 0], .arr 2 1 false⟩ := by kernel_rfl   -- [2]int
theorem feq23 : flatEq Try.prog 23 = some [.int .i64, .int .i64, .int .i64, .int .i64] := by kernel_rfl   -- tray.Key
theorem tis : type_of% (And.intro ti3 (And.intro ti4 (And.intro ti5 (And.intro ti9 (And.intro ti21 (And.intro ti23 (And.intro ti28 (And.intro ti29 (And.intro ti30 (And.intro ti32 (And.intro ti40 (And.intro ti41 (And.intro ti43 (And.intro ti47 (And.intro ti52 (And.intro ti57 (And.intro ti58 (And.intro ti60 (And.intro ti61 (feq23)))))))))))))))))))) := And.intro ti3 (And.intro ti4 (And.intro ti5 (And.intro ti9 (And.intro ti21 (And.intro ti23 (And.intro ti28 (And.intro ti29 (And.intro ti30 (And.intro ti32 (And.intro ti40 (And.intro ti41 (And.intro ti43 (And.intro ti47 (And.intro ti52 (And.intro ti57 (And.intro ti58 (And.intro ti60 (And.intro ti61 (feq23)))))))))))))))))))
end Go.Proofs.Ytjbhjjmkgakphaa
