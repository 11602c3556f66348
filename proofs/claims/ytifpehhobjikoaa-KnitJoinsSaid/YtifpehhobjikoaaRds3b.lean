/- How pairs are read. -/
import Derived.Test.YtifpehhobjikoaaRds03
import Derived.Test.YtifpehhobjikoaaCounts03
namespace Go.Proofs.Ytifpehhobjikoaa
set_option linter.all false
open Go Go.Proofs.Ytifpehhobjikoaa.Fw
set_option maxRecDepth 100000
set_option maxHeartbeats 1000000
theorem rdU2 : Rd Try.prog 40 2 (fun l => ∃ p : Pr, okU2 p ∧ l = eU2 p) := (Rd.arr2 (by kernel_rfl) (by kernel_rfl) rdU8).imp fun l ⟨a, b, ⟨x, hx, ex⟩, ⟨y, hy, ey⟩, e⟩ => ⟨⟨x, y⟩, ⟨hx, hy⟩, by rw [e, ex, ey]; rfl⟩
theorem rdU2s : Rd Try.prog 39 1 (fun l => ∃ xs : List Pr, ((∀ p ∈ xs, okU2 p) ∧ xs.length ≤ maxLen) ∧ l = [tab 2 eU2 dPr xs]) := Rd.slice dPr (by kernel_rfl) (by kernel_rfl) (by omega) rdU2
theorem rdPr : Rd Try.prog 26 2 (fun l => ∃ p : Pr, True ∧ l = ePr p) := (Rd.arr2 (by kernel_rfl) (by kernel_rfl) rdInt).imp fun l ⟨a, b, ⟨x, hx, ex⟩, ⟨y, hy, ey⟩, e⟩ => ⟨⟨x, y⟩, trivial, by rw [e, ex, ey]; rfl⟩
theorem rdPrs : Rd Try.prog 22 1 (fun l => ∃ xs : List Pr, ((∀ p ∈ xs, True) ∧ xs.length ≤ maxLen) ∧ l = [tab 2 ePr dPr xs]) := Rd.slice dPr (by kernel_rfl) (by kernel_rfl) (by omega) rdPr
end Go.Proofs.Ytifpehhobjikoaa
